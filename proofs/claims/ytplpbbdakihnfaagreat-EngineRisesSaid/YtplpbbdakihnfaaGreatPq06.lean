/- Packed texts: RegE, RegF, RegPl, RegG. -/
import Derived.Test.YtplpbbdakihnfaaGreatPq05
import Derived.Test.YtplpbbdakihnfaaGreatPq04
import Derived.Deep.RegionHeld3
import Derived.RegionTactic
import Derived.BigRegion
set_option linter.unusedSimpArgs false
set_option linter.unusedVariables false
section
namespace Go.Proofs.YtplpbbdakihnfaaGreat
open Go.RowKit
attribute [local go_sem ↓] Go.wp_at_zero Go.wp_at_succ
theorem ti_int : TI Tryz.prog tInt1 (.int .i64 0) 1 8 := (by kernel_rfl : (Tryz.prog.info? tInt1).map (fun i => (i.zero, i.size, i.bytes)) = some (some (.int .i64 0), 1, 8))
theorem rd_one2 (w : World) (o : Obj) (t : TypeId) (u : Value) : Rd ((w.alloc o).alloc (.cells #[u] t)) t (some ⟨w.heap.size + 1, 0, none⟩) (1 * 1) [u] := by
  have := rd_one (w.alloc o) t u
  rwa [World.size_alloc] at this
theorem counts_succ (regs : List Sealed) (k : Nat) : ((List.range (k + 1)).filter fun i => decide (0 < rnum regs i)) = ((List.range k).filter fun i => decide (0 < rnum regs i)) ++ (if 0 < rnum regs k then [k] else []) := by
  rw [List.range_succ, List.filter_append]
  congr 1
  simp only [List.filter_cons, List.filter_nil, decide_eq_true_eq]
theorem counts_mem {regs : List Sealed} {k i : Nat} (h : i ∈ (List.range k).filter fun i => decide (0 < rnum regs i)) : i < k := by
  have := (List.mem_filter.1 h).1
  exact List.mem_range.1 this
theorem counts_len (regs : List Sealed) (k : Nat) : ((List.range k).filter fun i => decide (0 < rnum regs i)).length ≤ k := by
  have := List.length_filter_le (fun i => decide (0 < rnum regs i)) (List.range k)
  simpa using this
set_option maxHeartbeats 2000000 in
theorem byNumber_calls {w : World} {h : DevH} {t : LgH} {G : Lg} (hl : LgAt w h t G) (h20 : G.regs.length < 20) :
    Calls Tryz.prog 70 #[.pointer (some ⟨t.L, 0, none⟩)] w fun e w' => ∃ v, e = .returned v ∧ w'.ownsRow w.heap.size tInt1 1 v (byNum G.regs).length (ints (byNum G.regs)) ∧ Chg No w w' := by
  obtain ⟨ses, hn, ho, hs⟩ := hl.regs
  obtain ⟨A, c, hR, hnc, hrd⟩ := own_slice ho
  have c3 := hl.box.cell 3
  simp at c3
  rw [hR] at c3
  have hpos := hl.ok.pos
  obtain ⟨g, off, rfl, hg, hx⟩ := hrd.at_ (j := 0) (by omega)
  have HX : Hid (∀ k, k < G.regs.length → ∃ Av lv cv, w.cell? ⟨g, off + k * 2, none⟩ = some (.int .u64 (rnum G.regs k : Nat)) ∧ w.cell? ⟨g, off + (k * 2 + 1), none⟩ = some (.slice Av lv cv)) := by
    intro k hk
    obtain ⟨v, hv, Av, cv, rfl, _⟩ := hs k _ (List.getElem?_eq_getElem hk)
    have e : rnum G.regs k = (G.regs[k]).num := by unfold rnum; rw [List.getD_eq_getElem?_getD, List.getElem?_eq_getElem hk]; rfl
    have h1 := hx (k * 2) _ (secs_get ses k _ hv).1
    have h2 := hx (k * 2 + 1) _ (secs_get ses k _ hv).2
    rw [← e] at h1
    exact ⟨_, _, _, h1, h2⟩
  have HL := Lib.hid hl
  have HB : Hid (byNum G.regs = sortR (rnum G.regs) (counts G.regs)) := rfl
  have hll : t.L < w.heap.size := hl.lt _ hl.ownL
  obtain ⟨n, hnn⟩ : ∃ n, G.regs.length = n := ⟨_, rfl⟩
  rw [hnn] at c3 hpos h20 HX
  have HCN : Hid (counts G.regs = (List.range n).filter fun i => decide (0 < rnum G.regs i)) := by show _ = _; unfold counts; rw [hnn]
  have HNN := Lib.hid hnn
  clear hl hn ho hs hR hrd hx hnn
  go_enter Tryz.func70, Tryz.ntmps70
  go_wp2
  go_loopg [3, 11] n (fun gk vv vi wr => ∃ (k : Nat) (v3 : Value), v3 = vv ∧ gk = n - k ∧ k ≤ n ∧ vi = .int .i64 k ∧ Hid (wr.ownsRow (w.heap.size + 1) tInt1 1 v3 ((List.range k).filter fun i => decide (0 < rnum G.regs i)).length (ints ((List.range k).filter fun i => decide (0 < rnum G.regs i))) ∧ Chg No w wr ∧ Blk wr w.heap.size 82 #[.pointer (some ⟨t.L, 0, none⟩)]))
  case atStart => exact ⟨0, _, rfl, rfl, Nat.zero_le _, rfl, by simpa [ints] using World.ownsRow_nil _ _ _ _, by (repeat (first | (with_reducible exact Chg.refl _ _) | (with_reducible assumption) | (with_reducible refine Chg.drewN ?_ _) | (with_reducible refine Chg.drew ?_) | (with_reducible refine Chg.alloc ?_ _) | (with_reducible refine Chg.setCell ?_ (by first | (left; simp [DevH.foot]; done) | (right; simp; done) | (right; simp; omega)) _))), Blk.new _ _ _⟩
  case round =>
    obtain ⟨k, v3, rfl, rfl, hk, rfl, H⟩ := hrel
    by_cases hlt : k < n
    · obtain ⟨Av, lv, cv, q0, q1⟩ := HX.out k hlt
      have hgl : g < w.heap.size := hg
      have c0 : wr.cell? ⟨g, off + k * 2, none⟩ = some (.int .u64 (rnum G.regs k : Nat)) := by
        rw [← q0]; exact H.out.2.1.toBelow.cell (p := ⟨g, off + k * 2, none⟩) hgl
      have c1 : wr.cell? ⟨g, off + k * 2 + 1, none⟩ = some (.slice Av lv cv) := by
        rw [Nat.add_assoc, ← q1]; exact H.out.2.1.toBelow.cell (p := ⟨g, off + (k * 2 + 1), none⟩) hgl
      have hcs := counts_succ G.regs k
      have hcl := counts_len G.regs k
      obtain ⟨m, hm⟩ : ∃ m, m = rnum G.regs k := ⟨_, rfl⟩
      obtain ⟨cs, hcc⟩ : ∃ cs, cs = (List.range k).filter fun i => decide (0 < rnum G.regs i) := ⟨_, rfl⟩
      rw [← hm] at c0 hcs
      rw [← hcc] at hcs hcl
      have HO : Hid (wr.ownsRow (w.heap.size + 1) tInt1 1 v3 cs.length (ints cs)) := by rw [hcc]; exact H.out.1
      have HCS := Lib.hid hcs
      have hki : (k : Int) < (n : Int) := by omega
      have hsz : w.heap.size + 1 ≤ wr.heap.size := H.out.2.2.lt
      clear hm hcc hcs q0 q1
      by_cases h0 : 0 < m
      · have h0i : (0 : Int) < (m : Int) := by omega
        have HC2 : Hid (((List.range (k + 1)).filter fun i => decide (0 < rnum G.regs i)) = cs ++ [k]) := by show _ = _; rw [HCS.out, if_pos h0]
        clear h0
        go_wp2_with (first
          | (at_builtin; go_loud (refine wpList_app _ rfl (.tmp 19) (.tmp 21) tInts1 rfl tInt1 Tryz.underlying66 ti_int rfl (by omega) (w.heap.size + 1) _ cs.length (ints cs) rfl ((HO.out.alloc _).alloc _) tInt1 _ 1 1 [.int .i64 (k : Int)] rfl (rd_one2 _ _ _ _) (by simp [Value.oneCell']) (by simp only [maxLen]; omega) (by omega) (by simp; omega) ?_); intro v2 w2 ho2 hg2 hb2; have HO2 := Lib.hid ho2; have HG2 := Lib.hid hg2; clear ho2 hg2 hb2))
        go_roundg (n - (k + 1))
        case measure => omega
        case rel =>
          refine ⟨k + 1, _, rfl, rfl, by omega, by go_num, ?_, ?_, ?_⟩
          · rw [HC2.out, ints_append, List.length_append]; exact HO2.out
          · exact ((H.out.2.1.alloc _).alloc _).grown HG2.out (fun j hj => .inr (by have := own_new HO.out j hj; omega))
          · refine Blk.chg ((H.out.2.2.alloc _).alloc _) (Chg.grown (Chg.refl (fun i => Value.ownBlock _ = some i) _) HG2.out (fun j hj => .inl hj)) (fun hj => by have := own_new HO.out _ hj; omega)
      · obtain rfl : m = 0 := by omega
        have HC2 : Hid (((List.range (k + 1)).filter fun i => decide (0 < rnum G.regs i)) = cs) := by show _ = _; rw [HCS.out, if_neg h0, List.append_nil]
        clear h0
        go_wp2
        go_roundg (n - (k + 1))
        case measure => omega
        case rel =>
          refine ⟨k + 1, _, rfl, rfl, by omega, by go_num, ?_, ?_, ?_⟩
          · rw [HC2.out]; exact HO.out.alloc _
          · exact H.out.2.1.alloc _
          · exact H.out.2.2.alloc _
    · obtain rfl : k = n := by omega
      have HO : Hid (wr.ownsRow (w.heap.size + 1) tInt1 1 v3 (counts G.regs).length (ints (counts G.regs))) := by rw [HCN.out]; exact H.out.1
      have HS := Lib.hid (stable_calls (HL.out.chgNo H.out.2.1) w.heap.size H.out.2.2 (w.heap.size + 1) v3 (counts G.regs) HO.out (fun j hj ho => by have h1 := own_new HO.out j hj; have h2 := HL.out.lt j ho; omega) (fun x hx => by rw [HCN.out] at hx; rw [HNN.out]; exact counts_mem hx) (by rw [HCN.out]; have := counts_len G.regs k; omega))
      have hlen : (sortR (rnum G.regs) (counts G.regs)).length = (counts G.regs).length := by unfold sortR; rw [List.length_reverse]; exact insL_length _ _
      have HLEN := Lib.hid hlen
      clear hlt hlen
      go_wp2_with fail
      refine HS.out.mono ?_
      rintro e w2 ⟨rfl, ho2, hc2⟩
      have HH := Lib.hid (And.intro ho2 hc2)
      clear ho2 hc2
      go_wp2
      go_ret
      refine ⟨_, rfl, ?_, ?_⟩
      · rw [HB.out, HLEN.out]
        exact own_base HH.out.1 (by omega)
      · refine H.out.2.1.then HH.out.2 (fun i hi hT => ?_)
        have := own_new HO.out i hT
        omega
end Go.Proofs.YtplpbbdakihnfaaGreat
end

section
namespace Go.Proofs.YtplpbbdakihnfaaGreat
open Go.RowKit
attribute [local go_sem ↓] Go.wp_at_zero Go.wp_at_succ
def Pl.zero : Pl := ⟨false, 0, 0⟩
theorem zero_pl (w : World) : (zeroValue tPlace).run Tryz.prog w = .ok (plv .zero) w := by kernel_rfl
def Lg.pl (G : Lg) (key : ByteArray) : Pl := (aget G.keys key).getD .zero
section
variable {w : World} {h : DevH} {t : LgH} {G : Lg}
theorem LgAt.look (hl : LgAt w h t G) (key : ByteArray) (ok : Bool) : (Instr.lookup tKeys (.map (some t.M)) (.string key) ok).run Tryz.prog w = .ok (if ok then .tuple #[plv (G.pl key), .bool (G.has key)] else plv (G.pl key)) w := by
  have e := hl.map.lookup (keyLaw_string (Tryz.underlying9)) Tryz.underlying128 (zero_pl w) key ok
  rw [e, aget_amap]
  unfold Lg.pl Lg.has
  cases aget G.keys key <;> rfl
theorem done_calls {N : Nat} {D : Dev} (hd : DevN N w h D) (hl : LgAt w h t G) :
    Calls Tryz.prog 86 #[.pointer (some ⟨t.L, 0, none⟩)] w fun e w' => e = .returned (.bool (decide (G.losses ≠ D.losses))) ∧ ∃ n, w' = w.drewN n := by
  have HL := fun n => Lib.hid (losses_calls (w := w.drewN n) (hd.chgNo ((Chg.refl No w).drewN n)))
  have c0 := hl.box.cell 0
  have c1 := hl.box.cell 1
  simp at c0 c1
  obtain ⟨a, ha⟩ : ∃ a, a = G.losses := ⟨_, rfl⟩
  obtain ⟨b, hb⟩ : ∃ b, b = D.losses := ⟨_, rfl⟩
  rw [← ha] at c1 ⊢
  rw [← hb] at HL ⊢
  clear hd hl ha hb
  go_enter Tryz.func86, Tryz.ntmps86
  go_wp2_with fail
  go_quiet ((go_at_call 35; exact quiet_left (HL _).out))
  go_wp2
  go_ret
  refine ⟨?_, _, rfl⟩
  congr 2
  by_cases h : a = b <;> simp [h]
theorem has_key {key : ByteArray} (hl : LgAt w h t G) :
    Calls Tryz.prog 84 #[.pointer (some ⟨t.L, 0, none⟩), .string key] w fun e w' => e = .returned (.bool (G.has key)) ∧ Chg No w w' := by
  have hk := hl.look key true
  have c7 := hl.box.cell 7
  simp at c7
  simp only [if_true, plv] at hk
  obtain ⟨b, hb⟩ : ∃ b, b = G.has key := ⟨_, rfl⟩
  obtain ⟨p, hp⟩ : ∃ p, p = G.pl key := ⟨_, rfl⟩
  rw [← hb, ← hp] at hk
  rw [← hb]
  clear hl hb hp
  go_enter Tryz.func84, Tryz.ntmps84
  go_wp2
  go_ret
  exact ⟨rfl, by (repeat (first | (with_reducible exact Chg.refl _ _) | (with_reducible assumption) | (with_reducible refine Chg.drewN ?_ _) | (with_reducible refine Chg.drew ?_) | (with_reducible refine Chg.alloc ?_ _) | (with_reducible refine Chg.setCell ?_ (by first | (left; simp [DevH.foot]; done) | (right; simp; done) | (right; simp; omega)) _)))⟩
theorem may_key {key : ByteArray} (hl : LgAt w h t G) :
    Calls Tryz.prog 55 #[.pointer (some ⟨t.L, 0, none⟩), .string key] w fun e w' => e = .returned (.bool (G.has key)) ∧ Chg No w w' := by
  have HH := Lib.hid (has_key (key := key) hl)
  clear hl
  go_enter Tryz.func55, Tryz.ntmps55
  go_wp2_with fail
  refine HH.out.mono ?_
  rintro e w1 ⟨rfl, hc1⟩
  have HC := Lib.hid hc1
  clear hc1
  go_wp2
  go_ret
  exact ⟨rfl, HC.out⟩
theorem LgAt.rekey {w' : World} {ks : Keys} (hl : LgAt w h t G) (hc : Chg (fun k => k = t.M) w w') (hm : MapIs skey w' t.M (amap plv ks)) (ok : ({ G with keys := ks } : Lg).Ok) : LgAt w' h t { G with keys := ks } := by
  have hL : ¬ t.L = t.M := fun e => hl.map.ne_blk hl.box e.symm
  have hcl : ∀ {g T cs fz}, w.heap[g]? = some (.cells cs T fz) → ¬ g = t.M := fun hg e => hl.map.ne_blk hg e.symm
  have hown : ∀ {v : Value} {base e size n : Nat} {xs : List Value}, w.ownsRow base e size v n xs → w'.ownsRow base e size v n xs := by
    intro v base e size n xs ho
    refine own_chg ho hc (fun k hk => ?_)
    rcases ho.2 with ⟨e1, _⟩ | ⟨g, cap, cur, e1, _, hg, _⟩
    · rw [e1] at hk; simp [Value.ownBlock] at hk
    · rw [e1] at hk
      have : g = k := by simpa [Value.ownBlock] using hk
      subst this
      exact hcl hg
  exact { hl with
    box := hl.box.chg hc hL
    regs := by
      obtain ⟨ses, h1, h2, h3⟩ := hl.regs
      refine ⟨ses, h1, hown h2, fun i S hS => ?_⟩
      obtain ⟨v, e, A, c, h4, h5, h6, h7⟩ := h3 i S hS
      exact ⟨v, e, A, c, h4, h5, h6.chg hc (fun g cur fz hg => hcl hg), h7⟩
    opn := hown hl.opn
    map := hm
    lt := fun k hk => Nat.lt_of_lt_of_le (hl.lt k hk) hc.size
    ok := ok }
theorem Lg.Ok.drop {G : Lg} (ho : G.Ok) (hn : (akeys G.keys).Nodup) (key : ByteArray) : (G.drop key).Ok :=
  { ho with
    keys := by
      intro k p hp
      have h : aget (adel G.keys key) k = some p := hp
      rw [aget_adel _ hn] at h
      split at h
      · cases h
      · exact ho.keys k p h }
theorem gdrop_calls (hl : LgAt w h t G) (key : ByteArray) :
    Calls Tryz.prog 44 #[.pointer (some ⟨t.L, 0, none⟩), .string key] w fun e w' => e = .returned (.tuple #[]) ∧ LgAt w' h t (G.drop key) ∧ Chg (fun k => k = t.M) w w' := by
  have c7 := hl.box.cell 7
  simp at c7
  obtain ⟨o, hrun, hm⟩ := hl.map.delete (P := Tryz.prog) (ty := 0) (kt' := 9) (keyLaw_string (Tryz.underlying9)) Tryz.underlying128 key
  rw [adel_amap] at hm
  have hc := chg_setBlock w t.M o
  have hg := hl.rekey hc hm (hl.ok.drop hl.nodup key)
  have HG := Lib.hid (And.intro hg hc)
  clear hl hm hc hg
  go_enter Tryz.func44, Tryz.ntmps44
  go_wp2
  go_end0
  exact ⟨rfl, HG.out⟩
theorem SlAt.item {v : Value} {l : List Item} {ix : Nat} {x : Item} (hs : SlAt w t v l) (hx : l[ix]? = some x) :
    ∃ g off c, v = .slice (some ⟨g, off, none⟩) l.length c ∧ g < w.heap.size ∧ w.cell? ⟨g, off + ix * 5, none⟩ = some (.string x.key) ∧ w.cell? ⟨g, off + ix * 5 + 1, none⟩ = some (.string x.val) ∧ w.cell? ⟨g, off + ix * 5 + 2, none⟩ = some (.int .u32 x.flags.toNat) ∧
      w.cell? ⟨g, off + ix * 5 + 3, none⟩ = some (.int .i64 x.exp.toInt) ∧ w.cell? ⟨g, off + ix * 5 + 4, none⟩ = some (.int .u64 x.ver.toNat) := by
  obtain ⟨A, c, rfl, h1, h2, _⟩ := hs
  have hlt : ix < l.length := (List.getElem?_eq_some_iff.1 hx).1
  obtain ⟨g, off, rfl, hg, hc⟩ := h2.at_ (j := ix * 5) (by omega)
  have c0 := hc (ix * 5 + 0) _ (its_get l ix 0 x hx (by omega))
  have c1 := hc (ix * 5 + 1) _ (its_get l ix 1 x hx (by omega))
  have c2 := hc (ix * 5 + 2) _ (its_get l ix 2 x hx (by omega))
  have c3 := hc (ix * 5 + 3) _ (its_get l ix 3 x hx (by omega))
  have c4 := hc (ix * 5 + 4) _ (its_get l ix 4 x hx (by omega))
  simp only [itc, List.getElem_cons_zero, List.getElem_cons_succ, ← Nat.add_assoc, Nat.add_zero] at c0 c1 c2 c3 c4
  exact ⟨g, off, c, rfl, hg, c0, c1, c2, c3, c4⟩
theorem LgAt.openAs (hl : LgAt w h t G) : ∃ A c, t.O = .slice A G.opn.length c ∧ G.opn.length ≤ c ∧ Rd w tItem A (G.opn.length * 5) (its G.opn) := own_slice hl.opn
theorem LgAt.openItem (hl : LgAt w h t G) {ix : Nat} {x : Item} (hx : G.opn[ix]? = some x) :
    ∃ g off c, t.O = .slice (some ⟨g, off, none⟩) G.opn.length c ∧ g < w.heap.size ∧ w.cell? ⟨g, off + ix * 5, none⟩ = some (.string x.key) ∧ w.cell? ⟨g, off + ix * 5 + 1, none⟩ = some (.string x.val) ∧ w.cell? ⟨g, off + ix * 5 + 2, none⟩ = some (.int .u32 x.flags.toNat) ∧
      w.cell? ⟨g, off + ix * 5 + 3, none⟩ = some (.int .i64 x.exp.toInt) ∧ w.cell? ⟨g, off + ix * 5 + 4, none⟩ = some (.int .u64 x.ver.toNat) := by
  obtain ⟨A, c, hO, hnc, hr⟩ := hl.openAs
  rw [hO]
  exact SlAt.item (t := ⟨0, 0, .slice none 0 0, .slice none 0 0, fun _ => True⟩) ⟨A, c, rfl, hnc, hr, fun _ _ _ _ => ⟨trivial, by simp [Value.ownBlock]⟩⟩ hx
theorem LgAt.row (hl : LgAt w h t G) : ∃ g off c, t.R = .slice (some ⟨g, off, none⟩) G.regs.length c ∧ g < w.heap.size ∧ ∀ (i : Nat) (S : Sealed), G.regs[i]? = some S → ∃ v, w.cell? ⟨g, off + i * 2, none⟩ = some (.int .u64 S.num) ∧ w.cell? ⟨g, off + i * 2 + 1, none⟩ = some v ∧ SlAt w t v S.l := by
  obtain ⟨ses, hn, ho, hs⟩ := hl.regs
  obtain ⟨A, c, hR, hnc, hrd⟩ := own_slice ho
  have hpos := hl.ok.pos
  obtain ⟨g, off, rfl, hg, hx⟩ := hrd.at_ (j := 0) (by omega)
  refine ⟨g, off, c, hR, hg, fun i S hS => ?_⟩
  obtain ⟨v, hv, hsl⟩ := hs i S hS
  exact ⟨v, hx (i * 2) _ (secs_get ses i _ hv).1, hx (i * 2 + 1) _ (secs_get ses i _ hv).2, hsl⟩
set_option maxRecDepth 100000 in
set_option maxHeartbeats 2000000 in
theorem item_open (hl : LgAt w h t G) (ix : Nat) (x : Item) (hx : G.opn[ix]? = some x) :
    Calls Tryz.prog 77 #[.pointer (some ⟨t.L, 0, none⟩), plv ⟨true, 0, ix⟩] w fun e w' => e = .returned (itemV x) ∧ Chg No w w' := by
  obtain ⟨g, off, c, hO, hg, c0, c1, c2, c3, c4⟩ := hl.openItem hx
  have d4 := hl.box.cell 4
  simp at d4
  rw [hO] at d4
  have hlt : ix < G.opn.length := (List.getElem?_eq_some_iff.1 hx).1
  have hmax := hl.ok.len
  have hll := hl.lt _ hl.ownL
  obtain ⟨n, hn⟩ : ∃ n, n = G.opn.length := ⟨_, rfl⟩
  rw [← hn] at d4 hlt hmax
  have hi : (ix : Int) < (n : Int) := by omega
  clear hl hx hO hn
  unfold plv
  go_enter Tryz.func77, Tryz.ntmps77
  go_wp2_with fail
  go_region
  all_goals
    go_wp2
    refine bodyPost_ret (v := itemV x) ?_ rfl ⟨rfl, by (repeat (first | (with_reducible exact Chg.refl _ _) | (with_reducible assumption) | (with_reducible refine Chg.drewN ?_ _) | (with_reducible refine Chg.drew ?_) | (with_reducible refine Chg.alloc ?_ _) | (with_reducible refine Chg.setCell ?_ (by first | (left; simp [DevH.foot]; done) | (right; simp; done) | (right; simp; omega)) _)))⟩
    simp [results, Tryz.results77, go_sem]
set_option maxRecDepth 100000 in
set_option maxHeartbeats 2000000 in
theorem item_reg (hl : LgAt w h t G) (rg ix : Nat) (S : Sealed) (x : Item) (hS : G.regs[rg]? = some S) (hx : S.l[ix]? = some x) :
    Calls Tryz.prog 77 #[.pointer (some ⟨t.L, 0, none⟩), plv ⟨false, rg, ix⟩] w fun e w' => e = .returned (itemV x) ∧ Chg No w w' := by
  obtain ⟨r, ro, rc, hR, hrg, hrow⟩ := hl.row
  obtain ⟨v, _, e1, hsl⟩ := hrow rg S hS
  obtain ⟨g, off, c, rfl, hg, c0, c1, c2, c3, c4⟩ := hsl.item hx
  have d3 := hl.box.cell 3
  simp at d3
  rw [hR] at d3
  have hlt : ix < S.l.length := (List.getElem?_eq_some_iff.1 hx).1
  have hrl : rg < G.regs.length := (List.getElem?_eq_some_iff.1 hS).1
  have hmax := (hl.ok.small S (List.mem_of_getElem? hS)).1
  have hmost := hl.ok.most
  have hll := hl.lt _ hl.ownL
  obtain ⟨n, hn⟩ : ∃ n, n = S.l.length := ⟨_, rfl⟩
  obtain ⟨m, hm⟩ : ∃ m, m = G.regs.length := ⟨_, rfl⟩
  rw [← hn] at e1 hlt hmax
  rw [← hm] at d3 hrl hmost
  have hi : (ix : Int) < (n : Int) := by omega
  have hri : (rg : Int) < (m : Int) := by omega
  clear hl hx hS hR hn hm hrow hsl
  unfold plv
  go_enter Tryz.func77, Tryz.ntmps77
  go_wp2_with fail
  go_region
  all_goals
    go_wp2
    refine bodyPost_ret (v := itemV x) ?_ rfl ⟨rfl, by (repeat (first | (with_reducible exact Chg.refl _ _) | (with_reducible assumption) | (with_reducible refine Chg.drewN ?_ _) | (with_reducible refine Chg.drew ?_) | (with_reducible refine Chg.alloc ?_ _) | (with_reducible refine Chg.setCell ?_ (by first | (left; simp [DevH.foot]; done) | (right; simp; done) | (right; simp; omega)) _)))⟩
    simp [results, Tryz.results77, go_sem]
abbrev zrw : Array Value := #[.string ⟨#[]⟩, .string ⟨#[]⟩, .int .u32 0, .int .i64 0, .int .u64 0]
set_option maxRecDepth 100000 in
set_option maxHeartbeats 2000000 in
theorem gget_calls (hl : LgAt w h t G) (key : ByteArray) :
    Calls Tryz.prog 50 #[.pointer (some ⟨t.L, 0, none⟩), .string key] w fun e w' => e = .returned (.tuple #[itemV (G.get key), .int .i64 (G.getE key)]) ∧ Chg No w w' := by
  have hk := fun W => Lib.hid (fun hc : Chg No w W => (hl.chgNo hc).look key true)
  have c7 := hl.box.cell 7
  simp at c7
  have hll := hl.lt _ hl.ownL
  cases hg : aget G.keys key with
  | none =>
    have hG : G.get key = Item.zero := by unfold Lg.get; rw [hg]
    have hE : G.getE key = 5 := by unfold Lg.getE Lg.has; rw [hg]; rfl
    have hh : G.has key = false := by unfold Lg.has; rw [hg]; rfl
    have hp : G.pl key = .zero := by unfold Lg.pl; rw [hg]; rfl
    rw [hG, hE]
    have hk1 := (hk (w.alloc (.cells zrw tItem))).out (by (repeat (first | (with_reducible exact Chg.refl _ _) | (with_reducible assumption) | (with_reducible refine Chg.drewN ?_ _) | (with_reducible refine Chg.drew ?_) | (with_reducible refine Chg.alloc ?_ _) | (with_reducible refine Chg.setCell ?_ (by first | (left; simp [DevH.foot]; done) | (right; simp; done) | (right; simp; omega)) _))))
    rw [hh, hp] at hk1
    simp only [if_true, plv, Pl.zero, zrw] at hk1
    clear hl hk hg hG hE hh hp
    go_enter Tryz.func50, Tryz.ntmps50
    go_wp2
    refine bodyPost_ret (v := .tuple #[itemV Item.zero, .int .i64 5]) ?_ rfl ⟨rfl, by (repeat (first | (with_reducible exact Chg.refl _ _) | (with_reducible assumption) | (with_reducible refine Chg.drewN ?_ _) | (with_reducible refine Chg.drew ?_) | (with_reducible refine Chg.alloc ?_ _) | (with_reducible refine Chg.setCell ?_ (by first | (left; simp [DevH.foot]; done) | (right; simp; done) | (right; simp; omega)) _)))⟩
    simp [results, Tryz.results50, go_sem]
    try exact ⟨rfl, rfl, rfl, rfl, rfl⟩
  | some p =>
    have hE : G.getE key = 0 := by unfold Lg.getE Lg.has; rw [hg]; rfl
    have hh : G.has key = true := by unfold Lg.has; rw [hg]; rfl
    have hp : G.pl key = p := by unfold Lg.pl; rw [hg]; rfl
    have HI : Hid (∀ W, Chg No w W → Calls Tryz.prog 77 #[.pointer (some ⟨t.L, 0, none⟩), .agg #[.bool p.op, .int .i64 p.rg, .int .i64 p.ix]] W fun e w' => e = .returned (itemV (G.get key)) ∧ Chg No W w') := by
      intro W hc
      have hok := hl.ok.keys key p hg
      unfold Lg.plOk at hok
      have hG : G.get key = G.item p := by unfold Lg.get; rw [hg]
      rw [hG]
      obtain ⟨op, rg, ix⟩ := p
      unfold Lg.item
      cases op with
      | true =>
        simp only [if_true] at hok ⊢
        obtain ⟨rfl, x, hx, _⟩ := hok
        rw [show G.opn.getD ix Item.zero = x from by rw [List.getD_eq_getElem?_getD, hx]; rfl]
        exact item_open (hl.chgNo hc) ix x hx
      | false =>
        simp only [Bool.false_eq_true, if_false] at hok ⊢
        obtain ⟨S, x, hS, hx, _⟩ := hok
        rw [show (rl G.regs rg).getD ix Item.zero = x from by unfold rl; rw [List.getD_eq_getElem?_getD, List.getD_eq_getElem?_getD, hS]; show (S.l[ix]?).getD _ = x; rw [hx]; rfl]
        exact item_reg (hl.chgNo hc) rg ix S x hS hx
    rw [hE]
    obtain ⟨x, hx⟩ : ∃ x, x = G.get key := ⟨_, rfl⟩
    rw [← hx] at HI ⊢
    have hk1 := (hk (w.alloc (.cells zrw tItem))).out (by (repeat (first | (with_reducible exact Chg.refl _ _) | (with_reducible assumption) | (with_reducible refine Chg.drewN ?_ _) | (with_reducible refine Chg.drew ?_) | (with_reducible refine Chg.alloc ?_ _) | (with_reducible refine Chg.setCell ?_ (by first | (left; simp [DevH.foot]; done) | (right; simp; done) | (right; simp; omega)) _))))
    rw [hh, hp] at hk1
    simp only [if_true, plv, zrw] at hk1
    clear hl hk hg hE hh hp hx
    go_enter Tryz.func50, Tryz.ntmps50
    go_wp2_with fail
    have HI2 := fun W => Lib.hid (HI.out W)
    refine ((HI2 _).out (by (repeat (first | (with_reducible exact Chg.refl _ _) | (with_reducible assumption) | (with_reducible refine Chg.drewN ?_ _) | (with_reducible refine Chg.drew ?_) | (with_reducible refine Chg.alloc ?_ _) | (with_reducible refine Chg.setCell ?_ (by first | (left; simp [DevH.foot]; done) | (right; simp; done) | (right; simp; omega)) _))))).mono ?_
    rintro e w1 ⟨rfl, hc1⟩
    have HC := Lib.hid hc1
    have HZ := Lib.hid (((Blk.new w tItem zrw).alloc _).chg hc1 (fun h => h))
    have hz : w.heap.size < w1.heap.size := HZ.out.lt
    clear hc1 HI
    (have z0 := HZ.out.cell 0; have z1 := HZ.out.cell 1; have z2 := HZ.out.cell 2; have z3 := HZ.out.cell 3; have z4 := HZ.out.cell 4; have f0 := HZ.out.frozen 0; have f1 := HZ.out.frozen 1; have f2 := HZ.out.frozen 2; have f3 := HZ.out.frozen 3; have f4 := HZ.out.frozen 4; simp at z0 z1 z2 z3 z4)
    go_wp2
    refine bodyPost_ret (v := .tuple #[itemV x, .int .i64 0]) ?_ rfl ⟨rfl, ?_⟩
    · simp [results, Tryz.results50, go_sem, z0, z1, z2, z3, z4, hz]
    · have h0 : Chg No w w1 := (by (repeat (first | (with_reducible exact Chg.refl _ _) | (with_reducible assumption) | (with_reducible refine Chg.drewN ?_ _) | (with_reducible refine Chg.drew ?_) | (with_reducible refine Chg.alloc ?_ _) | (with_reducible refine Chg.setCell ?_ (by first | (left; simp [DevH.foot]; done) | (right; simp; done) | (right; simp; omega)) _))) : Chg No w _).trans HC.out
      (repeat (first | (with_reducible exact Chg.refl _ _) | (with_reducible assumption) | (with_reducible refine Chg.drewN ?_ _) | (with_reducible refine Chg.drew ?_) | (with_reducible refine Chg.alloc ?_ _) | (with_reducible refine Chg.setCell ?_ (by first | (left; simp [DevH.foot]; done) | (right; simp; done) | (right; simp; omega)) _)))
end
end Go.Proofs.YtplpbbdakihnfaaGreat
end

section
namespace Go.Proofs.YtplpbbdakihnfaaGreat
open Go.RowKit
theorem zip_get {l : List Item} {k : Nat} {x : Item} (h : l[k]? = some x) : l.zipIdx[k]? = some (x, k) := by
  rw [List.getElem?_zipIdx, h]; simp
theorem foldl_take {α β : Type} (f : β → α → β) (b : β) (l : List α) (k : Nat) (x : α) (h : l[k]? = some x) : (l.take (k + 1)).foldl f b = f ((l.take k).foldl f b) x := by
  rw [List.take_add_one, h, Option.toList, List.foldl_append]; rfl
def giveS (i : Nat) (s : List Item × Keys) (p : Item × Nat) : List Item × Keys := if aget s.2 p.1.key = some ⟨false, i, p.2⟩ then (s.1 ++ [p.1], adel s.2 p.1.key) else s
def giveT (i : Nat) (ks : Keys) (l : List Item) (k : Nat) : List Item × Keys := (l.zipIdx.take k).foldl (giveS i) ([], ks)
theorem giveT_zero (i : Nat) (ks : Keys) (l : List Item) : giveT i ks l 0 = ([], ks) := rfl
theorem giveT_succ (i : Nat) (ks : Keys) {l : List Item} {k : Nat} {x : Item} (h : l[k]? = some x) : giveT i ks l (k + 1) = giveS i (giveT i ks l k) (x, k) := foldl_take _ _ _ _ _ (zip_get h)
theorem giveT_all (i : Nat) (ks : Keys) (l : List Item) : giveT i ks l l.length = giveK i ks l := by
  unfold giveT
  rw [List.take_of_length_le (by simp)]
  rfl
theorem giveT_len (i : Nat) (ks : Keys) (l : List Item) (k : Nat) (hk : k ≤ l.length) : (giveT i ks l k).1.length ≤ k := by
  induction k with
  | zero => simp [giveT_zero]
  | succ k ih =>
    rw [giveT_succ i ks (List.getElem?_eq_getElem (by omega : k < l.length))]
    have := ih (by omega)
    unfold giveS
    split
    · simp; omega
    · omega
theorem giveT_nodup (i : Nat) (ks : Keys) (l : List Item) (hn : (akeys ks).Nodup) (k : Nat) (hk : k ≤ l.length) : (akeys (giveT i ks l k).2).Nodup := by
  induction k with
  | zero => exact hn
  | succ k ih =>
    rw [giveT_succ i ks (List.getElem?_eq_getElem (by omega : k < l.length))]
    unfold giveS
    split
    · exact nodup_adel _ _ (ih (by omega))
    · exact ih (by omega)
theorem giveT_sub (i : Nat) (ks : Keys) (l : List Item) (hn : (akeys ks).Nodup) (k : Nat) (hk : k ≤ l.length) : ∀ key p, aget (giveT i ks l k).2 key = some p → aget ks key = some p := by
  induction k with
  | zero => intro key p h; exact h
  | succ k ih =>
    intro key p h
    rw [giveT_succ i ks (List.getElem?_eq_getElem (by omega : k < l.length))] at h
    unfold giveS at h
    split at h
    · simp only at h
      rw [aget_adel _ (giveT_nodup i ks l hn k (by omega))] at h
      split at h
      · cases h
      · exact ih (by omega) key p h
    · exact ih (by omega) key p h
theorem giveT_none (i : Nat) (ks : Keys) (l : List Item) (hn : (akeys ks).Nodup) (hv : ∀ key k, aget ks key = some ⟨false, i, k⟩ → ∃ x, l[k]? = some x ∧ x.key = key) (k : Nat) (hk : k ≤ l.length) :
    ∀ key j, aget (giveT i ks l k).2 key = some ⟨false, i, j⟩ → k ≤ j := by
  induction k with
  | zero => intro key j _; exact Nat.zero_le _
  | succ k ih =>
    intro key j h
    have hlt : k < l.length := by omega
    have hsub := giveT_sub i ks l hn (k + 1) hk key _ h
    obtain ⟨y, hy, hyk⟩ := hv key j hsub
    rw [giveT_succ i ks (List.getElem?_eq_getElem hlt)] at h
    unfold giveS at h
    have hne : j ≠ k := by
      rintro rfl
      have hxy : l[j] = y := by rw [List.getElem?_eq_getElem hlt] at hy; exact Option.some.inj hy
      simp only [hxy, hyk] at h
      split at h
      · simp only at h
        rw [aget_adel _ (giveT_nodup i ks l hn j (by omega)), if_pos rfl] at h
        cases h
      · rename_i hno
        exact hno h
    have : aget (giveT i ks l k).2 key = some ⟨false, i, j⟩ := by
      split at h
      · simp only at h
        rw [aget_adel _ (giveT_nodup i ks l hn k (by omega))] at h
        split at h
        · cases h
        · exact h
      · exact h
    have := ih (by omega) key j this
    omega
def moveS (i : Nat) (ks : Keys) (p : Item × Nat) : Keys := if aget ks p.1.key = some ⟨true, 0, p.2⟩ then aset ks p.1.key ⟨false, i, p.2⟩ else ks
def moveT (i : Nat) (ks : Keys) (l : List Item) (k : Nat) : Keys := (l.zipIdx.take k).foldl (moveS i) ks
theorem moveT_zero (i : Nat) (ks : Keys) (l : List Item) : moveT i ks l 0 = ks := rfl
theorem moveT_succ (i : Nat) (ks : Keys) {l : List Item} {k : Nat} {x : Item} (h : l[k]? = some x) : moveT i ks l (k + 1) = moveS i (moveT i ks l k) (x, k) := foldl_take _ _ _ _ _ (zip_get h)
theorem moveT_all (i : Nat) (ks : Keys) (l : List Item) : moveT i ks l l.length = moveK i ks l := by
  unfold moveT
  rw [List.take_of_length_le (by simp)]
  rfl
theorem moveT_nodup (i : Nat) (ks : Keys) (l : List Item) (hn : (akeys ks).Nodup) (k : Nat) (hk : k ≤ l.length) : (akeys (moveT i ks l k)).Nodup := by
  induction k with
  | zero => exact hn
  | succ k ih =>
    rw [moveT_succ i ks (List.getElem?_eq_getElem (by omega : k < l.length))]
    unfold moveS
    split
    · exact nodup_aset _ _ _ (ih (by omega))
    · exact ih (by omega)
def moved (i : Nat) (k : Nat) (p : Pl) : Pl := if p.op = true ∧ p.ix < k then ⟨false, i, p.ix⟩ else p
theorem moveT_get (i : Nat) (ks : Keys) (l : List Item) (hv : ∀ key p, aget ks key = some p → p.op = true → p.rg = 0 ∧ ∃ x, l[p.ix]? = some x ∧ x.key = key) (k : Nat) (hk : k ≤ l.length) (key : ByteArray) :
    aget (moveT i ks l k) key = (aget ks key).map (moved i k) := by
  induction k with
  | zero =>
    rw [moveT_zero]
    cases h : aget ks key with
    | none => rfl
    | some p => simp [moved]
  | succ k ih =>
    have hlt : k < l.length := by omega
    have ih := ih (by omega)
    have hx : l[k]? = some l[k] := List.getElem?_eq_getElem hlt
    rw [moveT_succ i ks hx]
    generalize hxe : l[k] = x at hx
    unfold moveS
    by_cases hkey : x.key = key
    · subst hkey
      simp only
      rw [ih]
      cases h : aget ks x.key with
      | none => simp [ih, h]
      | some p =>
        simp only [Option.map_some, Option.some.injEq]
        by_cases hp : p.op = true ∧ p.ix = k
        · have hv1 := hv _ _ h hp.1
          have e1 : moved i k p = ⟨true, 0, k⟩ := by
            unfold moved
            rw [if_neg (by omega)]
            obtain ⟨op, rg, ix⟩ := p
            simp only at hp hv1
            rw [hp.1, hp.2, hv1.1]
          rw [if_pos e1, aget_aset, if_pos rfl]
          unfold moved
          rw [if_pos ⟨hp.1, by omega⟩, hp.2]
        · have e1 : ¬ moved i k p = ⟨true, 0, k⟩ := by
            intro e
            unfold moved at e
            split at e
            · cases e
            · subst e; exact hp ⟨rfl, rfl⟩
          rw [if_neg e1, ih, h]
          simp only [Option.map_some, Option.some.injEq]
          unfold moved
          by_cases h2 : p.op = true ∧ p.ix < k
          · rw [if_pos h2, if_pos ⟨h2.1, by omega⟩]
          · rw [if_neg h2, if_neg (fun h3 => h2 ⟨h3.1, by have : p.ix ≠ k := fun e => hp ⟨h3.1, e⟩; omega⟩)]
    · have hgoal : (aget ks key).map (moved i (k + 1)) = (aget ks key).map (moved i k) := by
        cases h : aget ks key with
        | none => rfl
        | some p =>
          simp only [Option.map_some, Option.some.injEq]
          unfold moved
          by_cases h2 : p.op = true ∧ p.ix < k
          · rw [if_pos h2, if_pos ⟨h2.1, by omega⟩]
          · rw [if_neg h2, if_neg (fun h3 => h2 ⟨h3.1, ?_⟩)]
            have hne : p.ix ≠ k := by
              intro e
              obtain ⟨_, y, hy, hyk⟩ := hv key p h h3.1
              rw [e, hx] at hy
              injection hy with hy
              exact hkey (by rw [hy]; exact hyk)
            omega
      rw [hgoal]
      split
      · rw [aget_aset, if_neg hkey]; exact ih
      · exact ih
end Go.Proofs.YtplpbbdakihnfaaGreat
end

section
namespace Go.Proofs.YtplpbbdakihnfaaGreat
open Go.RowKit
open Go.ChangeMaps (setBlock)
attribute [local go_sem ↓] Go.wp_at_zero Go.wp_at_succ
set_option maxRecDepth 100000 in
theorem run_eql_pl (p q : Pl) (W : World) : (binOp .eql tPlace (plv p) (plv q)).run Tryz.prog W = .ok (.bool (decide (p = q))) W := by
  unfold plv
  rw [run_eql_struct, show (10000 : Nat) = 9999 + 1 from rfl, run_equalIn_agg W 9999 tPlace _ _ (by kernel_rfl) (by kernel_rfl)]
  simp [go_sem, Program.fieldsOf, Tryz.underlying137, Op.eqFields]
  have hxy : p = q ↔ (p.op = q.op ∧ (p.rg : Int) = q.rg ∧ (p.ix : Int) = q.ix) := by
    constructor
    · rintro rfl; exact ⟨rfl, rfl, rfl⟩
    · rintro ⟨h1, h2, h3⟩
      cases p; cases q
      simp only [Pl.mk.injEq]
      exact ⟨h1, Int.ofNat.inj h2, Int.ofNat.inj h3⟩
  by_cases h1 : p.op = q.op
  · rw [if_pos h1]
    by_cases h2 : (p.rg : Int) = q.rg
    · rw [if_pos h2]
      by_cases h3 : (p.ix : Int) = q.ix
      · rw [if_pos h3, decide_eq_true (hxy.2 ⟨h1, h2, h3⟩)]
      · rw [if_neg h3, decide_eq_false (fun h => h3 (hxy.1 h).2.2)]
    · rw [if_neg h2, decide_eq_false (fun h => h2 (hxy.1 h).2.1)]
  · rw [if_neg h1, decide_eq_false (fun h => h1 (hxy.1 h).1)]
theorem run_eql_pl' (p : Pl) (b : Bool) (r k : Nat) (W : World) : (binOp .eql tPlace (.agg #[.bool p.op, .int .i64 p.rg, .int .i64 p.ix]) (.agg #[.bool b, .int .i64 r, .int .i64 k])).run Tryz.prog W = .ok (.bool (decide (p = ⟨b, r, k⟩))) W := run_eql_pl p ⟨b, r, k⟩ W
theorem Lg.Ok.keysSub {G : Lg} (ho : G.Ok) {ks : Keys} (hs : ∀ key p, aget ks key = some p → aget G.keys key = some p) : ({ G with keys := ks } : Lg).Ok :=
  { ho with
    keys := by
      intro k p hp
      exact ho.keys k p (hs k p hp) }
theorem Lg.Ok.inReg {G : Lg} (ho : G.Ok) {i : Nat} {S : Sealed} (hS : G.regs[i]? = some S) : ∀ key k, aget G.keys key = some ⟨false, i, k⟩ → ∃ x, S.l[k]? = some x ∧ x.key = key := by
  intro key k h
  have := ho.keys key _ h
  simp only [Lg.plOk, Bool.false_eq_true, if_false] at this
  obtain ⟨S', x, h1, h2, h3⟩ := this
  rw [hS] at h1
  injection h1 with h1
  subst h1
  exact ⟨x, h2, h3⟩
section
variable {w : World} {h : DevH} {t : LgH} {G : Lg}
theorem LgAt.ne_map (hl : LgAt w h t G) {g : Nat} {T : TypeId} {cs : Array Value} {fz : Nat × Nat} (hg : w.heap[g]? = some (.cells cs T fz)) : ¬ g = t.M := fun e => hl.map.ne_blk hg e.symm
theorem LgAt.rowAt (hl : LgAt w h t G) {g off n c : Nat} (hR : t.R = .slice (some ⟨g, off, none⟩) n c) : off = 0 ∧ n = G.regs.length ∧ (∀ i, w.frozen? ⟨g, i, none⟩ = false) ∧ (∃ cur, w.heap[g]? = some (.cells cur tSeal (0, 0))) := by
  obtain ⟨ses, h1, h2, h3⟩ := hl.regs
  rw [hR] at h2
  rcases h2.2 with ⟨e, _⟩ | ⟨g', cap, cur, e, _, hg, _⟩
  · cases e
  · injection e with e1 e2 e3
    simp only [Option.some.injEq, Addr.mk.injEq, and_true] at e1
    obtain ⟨rfl, rfl⟩ := e1
    exact ⟨rfl, e2, fun i => frozen_of_row w g i cur tSeal hg, cur, hg⟩
theorem LgAt.rowNe (hl : LgAt w h t G) {g off n c : Nat} (hR : t.R = .slice (some ⟨g, off, none⟩) n c) {k : Nat} {T : TypeId} {cs : Array Value} {fz : Nat × Nat} (hk : w.heap[k]? = some (.cells cs T fz)) (hT : T ≠ tSeal) : ¬ k = g := by
  rintro rfl
  obtain ⟨_, _, _, cur, hg⟩ := hl.rowAt hR
  rw [hk] at hg
  injection hg with hg
  injection hg with _ e
  exact hT e
theorem LgAt.rowCell (hl : LgAt w h t G) {g n c : Nat} (hR : t.R = .slice (some ⟨g, 0, none⟩) n c) (i : Nat) (S : Sealed) (hS : G.regs[i]? = some S) : ∃ v, w.cell? ⟨g, i * 2, none⟩ = some (.int .u64 S.num) ∧ w.cell? ⟨g, i * 2 + 1, none⟩ = some v ∧ SlAt w t v S.l := by
  obtain ⟨g', off, c', hR', _, hrow⟩ := hl.row
  rw [hR] at hR'
  injection hR' with e1 e2 e3
  simp only [Option.some.injEq, Addr.mk.injEq, and_true] at e1
  obtain ⟨rfl, rfl⟩ := e1
  have := hrow i S hS
  simpa using this
theorem LgAt.setReg (hl : LgAt w h t G) {g n c i : Nat} (hR : t.R = .slice (some ⟨g, 0, none⟩) n c) (hi : i < G.regs.length) (S' : Sealed) (v' : Value) (hs : SlAt w t v' S'.l) (ok : ({ G with regs := G.regs.set i S' } : Lg).Ok) :
    LgAt ((w.setCell ⟨g, i * 2, none⟩ (.int .u64 S'.num)).setCell ⟨g, i * 2 + 1, none⟩ v') h t { G with regs := G.regs.set i S' } ∧ Chg (fun k => k = g) w ((w.setCell ⟨g, i * 2, none⟩ (.int .u64 S'.num)).setCell ⟨g, i * 2 + 1, none⟩ v') := by
  have hc : Chg (fun k => k = g) w ((w.setCell ⟨g, i * 2, none⟩ (.int .u64 S'.num)).setCell ⟨g, i * 2 + 1, none⟩ v') := Chg.setCell (S := fun k => k = g) (Chg.setCell (S := fun k => k = g) (Chg.refl _ _) (.inl rfl) _) (.inl rfl) _
  have hsl : ∀ v l, SlAt w t v l → SlAt ((w.setCell ⟨g, i * 2, none⟩ (.int .u64 S'.num)).setCell ⟨g, i * 2 + 1, none⟩ v') t v l := by
    rintro v l ⟨A, c, h4, h5, h6, h7⟩
    exact ⟨A, c, h4, h5, h6.chg hc (fun g cur fz hg => hl.rowNe hR hg (by decide)), h7⟩
  obtain ⟨_, hn, _, cur0, hcur0⟩ := hl.rowAt hR
  refine ⟨{ hl with
    box := hl.box.chg hc (hl.rowNe hR hl.box (by decide))
    regs := ?_
    opn := own_chg hl.opn hc (fun k hk => ?_)
    map := hl.map.chg hc (fun e => hl.map.ne_blk hcur0 e)
    lt := fun k hk => Nat.lt_of_lt_of_le (hl.lt k hk) hc.size
    ok := ok }, hc⟩
  · obtain ⟨ses, h1, h2, h3⟩ := hl.regs
    refine ⟨ses.set i (S'.num, v'), by simpa using h1, ?_, ?_⟩
    · rw [secs_set ses i _ (by omega), List.length_set]
      have h2' := h2
      rw [hR] at h2'
      obtain rfl : n = G.regs.length := hn
      have := ((h2'.stored (i * 2) (.int .u64 S'.num)).1.stored (i * 2 + 1) v').1
      rw [hR]
      exact this
    · intro j S hS
      simp only at hS
      rw [List.getElem?_set] at hS
      by_cases hij : i = j
      · rw [if_pos hij] at hS
        rw [if_pos hi] at hS
        injection hS with hS
        subst hS
        exact ⟨v', by rw [List.getElem?_set, if_pos hij, if_pos (by omega)], hsl _ _ hs⟩
      · rw [if_neg hij] at hS
        obtain ⟨v, e, hv⟩ := h3 j S hS
        exact ⟨v, by rw [List.getElem?_set, if_neg hij]; exact e, hsl _ _ hv⟩
  · rcases hl.opn.2 with ⟨e, _⟩ | ⟨g', cap, cur, e, _, hg, _⟩
    · rw [e] at hk; simp [Value.ownBlock] at hk
    · rw [e] at hk
      have : g' = k := by simpa [Value.ownBlock] using hk
      subst this
      exact hl.rowNe hR hg (by decide)
theorem Lg.Ok.gave {G : Lg} (ho : G.Ok) (hn : (akeys G.keys).Nodup) {i : Nat} (hi : i < G.regs.length) : ({ G with regs := G.regs.set i .no, keys := (giveK i G.keys (rl G.regs i)).2 } : Lg).Ok := by
  obtain ⟨S, hS⟩ : ∃ S, G.regs[i]? = some S := ⟨_, List.getElem?_eq_getElem hi⟩
  have hrl : rl G.regs i = S.l := by unfold rl; rw [List.getD_eq_getElem?_getD, hS]; rfl
  rw [hrl, ← giveT_all]
  have hsub := giveT_sub i G.keys S.l hn S.l.length (Nat.le_refl _)
  have hnone := giveT_none i G.keys S.l hn (ho.inReg hS) S.l.length (Nat.le_refl _)
  exact { ho with
    pos := by simpa using ho.pos
    most := by simpa using ho.most
    fit := by simpa using ho.fit
    small := by
      intro S' h'
      rcases List.mem_or_eq_of_mem_set h' with h' | rfl
      · exact ho.small S' h'
      · exact ⟨by simp [Sealed.no], by simp [Sealed.no]⟩
    keys := by
      intro key p hp
      have h1 := hsub key p hp
      have h2 := ho.keys key p h1
      unfold Lg.plOk at h2 ⊢
      split
      · rename_i hop
        rw [if_pos hop] at h2
        exact h2
      · rename_i hop
        rw [if_neg hop] at h2
        obtain ⟨S', x, e1, e2, e3⟩ := h2
        refine ⟨S', x, ?_, e2, e3⟩
        rw [List.getElem?_set, if_neg ?_]
        · exact e1
        · intro e
          have hop' : p.op = false := by simpa using hop
          have hpp : p = ⟨false, i, p.ix⟩ := by rw [e, ← hop']
          rw [hpp] at hp
          have := hnone key p.ix hp
          rw [← e, hS] at e1
          injection e1 with e1
          subst e1
          have := (List.getElem?_eq_some_iff.1 e2).1
          omega }
set_option maxRecDepth 100000 in
set_option maxHeartbeats 4000000 in
theorem give_calls (hl : LgAt w h t G) (i : Nat) (hi : i < G.regs.length) :
    Calls Tryz.prog 87 #[.pointer (some ⟨t.L, 0, none⟩), .int .i64 i] w fun e w' => ∃ v, e = .returned v ∧ w'.ownsRow w.heap.size tItem 5 v (giveK i G.keys (rl G.regs i)).1.length (its (giveK i G.keys (rl G.regs i)).1) ∧
      LgAt w' h t { G with regs := G.regs.set i .no, keys := (giveK i G.keys (rl G.regs i)).2 } ∧ Chg t.spot w w' := by
  obtain ⟨S, hS⟩ : ∃ S, G.regs[i]? = some S := ⟨_, List.getElem?_eq_getElem hi⟩
  have hrl : rl G.regs i = S.l := by unfold rl; rw [List.getD_eq_getElem?_getD, hS]; rfl
  rw [hrl]
  obtain ⟨r, ro, rc, hR, hrg, hrow⟩ := hl.row
  obtain ⟨rfl, _, _, _⟩ := hl.rowAt hR
  obtain ⟨vs, e0, e1, hsl⟩ := hl.rowCell hR i S hS
  obtain ⟨A, c, rfl, hnc, hrd, _⟩ := hsl
  have d3 := hl.box.cell 3
  simp at d3
  rw [hR] at d3
  have hmax := (hl.ok.small S (List.mem_of_getElem? hS)).1
  have hmost := hl.ok.most
  have hll := hl.lt _ hl.ownL
  have HL := Lib.hid hl
  have HRD := Lib.hid hrd
  have HS := Lib.hid hS
  have hno := giveT_all i G.keys S.l
  obtain ⟨l, hll2⟩ : ∃ l, l = S.l := ⟨_, rfl⟩
  rw [← hll2] at e1 hmax HRD hnc hno ⊢
  have HLL := Lib.hid hll2
  have HALL := Lib.hid hno
  obtain ⟨n, hn⟩ : ∃ n, n = l.length := ⟨_, rfl⟩
  rw [← hn] at e1 hmax hnc HALL
  have HN := Lib.hid hn
  obtain ⟨m, hm⟩ : ∃ m, m = G.regs.length := ⟨_, rfl⟩
  rw [← hm] at d3 hi hmost
  have hii : (i : Int) < (m : Int) := by omega
  have HND := Lib.hid hl.nodup
  have HRR := Lib.hid hR
  clear hl hS hrl hR hrow hrd hll2 hno hn hm e0
  go_enter Tryz.func87, Tryz.ntmps87
  go_wp2
  go_loopg [5, 17] n (fun gk vv vi wr => ∃ (k : Nat) (v5 : Value), v5 = vv ∧ gk = n - k ∧ k ≤ n ∧ vi = .int .i64 k ∧
    Hid (wr.ownsRow w.heap.size tItem 5 v5 (giveT i G.keys l k).1.length (its (giveT i G.keys l k).1) ∧ LgAt wr h t { G with keys := (giveT i G.keys l k).2 } ∧ Chg (fun k => k = t.M) w wr))
  case atStart => exact ⟨0, _, rfl, rfl, Nat.zero_le _, rfl, World.ownsRow_nil _ _ _ _, HL.out, Chg.refl _ _⟩
  case round =>
    obtain ⟨k, v5, rfl, rfl, hk, rfl, H⟩ := hrel
    by_cases hlt : k < n
    · obtain ⟨x, hx⟩ : ∃ x, l[k]? = some x := ⟨_, List.getElem?_eq_getElem (by rw [← HN.out]; exact hlt)⟩
      have hsucc := giveT_succ i G.keys hx
      have hlen := giveT_len i G.keys l k (by rw [← HN.out]; exact hk)
      obtain ⟨lost, ks, hsk⟩ : ∃ lost ks, giveT i G.keys l k = (lost, ks) := ⟨_, _, rfl⟩
      rw [hsk] at H hsucc hlen
      simp only at H hlen
      obtain ⟨Gk, hGk⟩ : ∃ Gk : Lg, Gk = { G with keys := ks } := ⟨_, rfl⟩
      rw [← hGk] at H
      have hrd1 : Rd wr tItem A (l.length * 5) (its l) := by
        have := HRD.out
        rw [← HN.out] at this ⊢
        exact this.chg H.out.2.2 (fun g cur fz hg => HL.out.ne_map hg)
      obtain ⟨g, off, c', he', hg, c0, c1, c2, c3, c4⟩ := SlAt.item (w := wr) (t := ⟨0, 0, .slice none 0 0, .slice none 0 0, fun _ => True⟩) (v := .slice A l.length c) ⟨A, c, rfl, by rw [← HN.out]; exact hnc, hrd1, fun _ _ _ _ => ⟨trivial, by simp [Value.ownBlock]⟩⟩ hx
      obtain ⟨rfl, _, _⟩ : A = some ⟨g, off, none⟩ ∧ True ∧ True := by injection he' with e1 e2 e3; exact ⟨e1, trivial, trivial⟩
      have hki : (k : Int) < (n : Int) := by omega
      have HSUC := Lib.hid hsucc
      have HGK := Lib.hid hGk
      have HSK := Lib.hid hsk
      have HX := Lib.hid hx
      clear hsucc hGk hsk hrd1 hx he'
      go_wp2_with fail
      refine wp_forget (fun W => Chg No wr W ∧ Blk W wr.heap.size tItem (itc x).toArray) ⟨by (repeat (first | (with_reducible exact Chg.refl _ _) | (with_reducible assumption) | (with_reducible refine Chg.drewN ?_ _) | (with_reducible refine Chg.drew ?_) | (with_reducible refine Chg.alloc ?_ _) | (with_reducible refine Chg.setCell ?_ (by first | (left; simp [DevH.foot]; done) | (right; simp; done) | (right; simp; omega)) _))), Blk.new _ _ _⟩ (fun W hW => ?_)
      obtain ⟨hcW, hbW⟩ := hW
      obtain ⟨ga, hga⟩ : ∃ ga, wr.heap.size = ga := ⟨_, rfl⟩
      rw [hga] at hbW ⊢
      have hlW := H.out.2.1.chgNo hcW
      have hk := fun n => (hlW.chgNo ((Chg.refl No W).drewN n)).look x.key false
      have hk0 := (hlW.chgNo ((Chg.refl No W).drew)).look x.key false
      have d7 := hlW.box.cell 7
      simp at d7
      have a0 := hbW.cell 0
      have a1 := hbW.cell 1
      have a2 := hbW.cell 2
      have a3 := hbW.cell 3
      have a4 := hbW.cell 4
      simp [itc] at a0 a1 a2 a3 a4
      simp only [Bool.false_eq_true, if_false, plv] at hk hk0
      have hdec : (aget ks x.key = some ⟨false, i, k⟩) = (Gk.pl x.key = ⟨false, i, k⟩ ∧ Gk.has x.key = true) := by
        have e1 : Gk.pl x.key = (aget ks x.key).getD .zero := by rw [HGK.out]; rfl
        have e2 : Gk.has x.key = (aget ks x.key).isSome := by rw [HGK.out]; rfl
        rw [e1, e2]
        cases aget ks x.key with
        | none => simp
        | some p => simp
      have he := fun W => run_eql_pl' (Gk.pl x.key) false i k W
      have HLW := Lib.hid hlW
      have HDEC := Lib.hid hdec
      have HCW := Lib.hid hcW
      have HBW := Lib.hid hbW
      have HGA := Lib.hid hga
      obtain ⟨q, hq⟩ : ∃ q, q = Gk.pl x.key := ⟨_, rfl⟩
      rw [← hq] at hk hk0 he HDEC
      clear hlW hdec hcW hbW hga hq c0 c1 c2 c3 c4
      by_cases hpl : q = ⟨false, i, k⟩
      · have he1 : ∀ W, (binOp .eql tPlace (.agg #[.bool q.op, .int .i64 q.rg, .int .i64 q.ix]) (.agg #[.bool false, .int .i64 i, .int .i64 k])).run Tryz.prog W = .ok (.bool true) W := fun W => by rw [he W, decide_eq_true hpl]
        have HPL := Lib.hid hpl
        have HHAS : Hid (∀ W', Chg No W W' → Calls Tryz.prog 84 #[.pointer (some ⟨t.L, 0, none⟩), .string x.key] W' fun e w' => e = .returned (.bool (Gk.has x.key)) ∧ Chg No W' w') := fun W' hc => has_key (HLW.out.chgNo hc)
        clear he hpl
        cases hhas : Gk.has x.key with
        | true => 
          rw [hhas] at HHAS
          have HYES : Hid (giveT i G.keys l (k + 1) = (lost ++ [x], adel ks x.key)) := by
            show _ = _
            rw [HSUC.out, giveS, if_pos]
            simp only
            rw [HDEC.out]; exact ⟨HPL.out, hhas⟩
          clear hhas
          have HH2 := fun W' => Lib.hid (HHAS.out W')
          clear HHAS
          go_wp2_with fail
          (go_region_with
                ((first
                  | (go_at_call 84; refine ((HH2 _).out (by (repeat (first | (with_reducible exact Chg.refl _ _) | (with_reducible assumption) | (with_reducible refine Chg.drewN ?_ _) | (with_reducible refine Chg.drew ?_) | (with_reducible refine Chg.alloc ?_ _) | (with_reducible refine Chg.setCell ?_ (by first | (left; simp [DevH.foot]; done) | (right; simp; done) | (right; simp; omega)) _))))).mono ?_; rintro e w1 ⟨rfl, hc1⟩; have HC1 : Hid (Chg No W w1) := (by (repeat (first | (with_reducible exact Chg.refl _ _) | (with_reducible assumption) | (with_reducible refine Chg.drewN ?_ _) | (with_reducible refine Chg.drew ?_) | (with_reducible refine Chg.alloc ?_ _) | (with_reducible refine Chg.setCell ?_ (by first | (left; simp [DevH.foot]; done) | (right; simp; done) | (right; simp; omega)) _))) : Chg No W _).trans hc1; clear hc1))))
          all_goals
            have hb1 := HBW.out.chg HC1.out (fun h => h)
            have b0 := hb1.cell 0
            have b1 := hb1.cell 1
            have b2 := hb1.cell 2
            have b3 := hb1.cell 3
            have b4 := hb1.cell 4
            simp [itc] at b0 b1 b2 b3 b4
            have HB1 := Lib.hid hb1
            have HO1 : Hid (w1.ownsRow w.heap.size tItem 5 v5 lost.length (its lost)) := own_chg H.out.1 (HCW.out.trans HC1.out) (fun _ _ h => h)
            have hwz : w.heap.size ≤ w1.heap.size := by have h1 := H.out.2.2.size; have h2 := HCW.out.size; have h3 := HC1.out.size; omega
            clear hb1 a0 a1 a2 a3 a4 hk hk0 d7
            go_wp2_with (first
              | (at_builtin; go_loud (refine wpList_app _ rfl (.tmp 39) (.tmp 41) tItems rfl tItem Tryz.underlying46 ti_item rfl (by omega) w.heap.size _ lost.length (its lost) rfl (HO1.out.alloc _) tItem _ 1 1 (itc x) rfl (rd_item _ x) (itc_one_cell x) (by simp only [maxLen]; omega) (by omega) (by simp; omega) ?_); intro v2 w2 ho2 hg2 hb2; have HO2 := Lib.hid ho2; have HG2 := Lib.hid hg2; clear ho2 hg2 hb2))
            have hG2 : Chg (fun j => Value.ownBlock v5 = some j) w1 w2 := Chg.grown ((Chg.refl _ _).alloc _) HG2.out (fun j hj => .inl hj)
            have hl2 : LgAt w2.drew h t Gk := ((HLW.out.chgNo HC1.out).chg hG2 (fun j hj hS => by have h1 := own_new H.out.1 j hS; have h2 := HL.out.lt j hj; omega)).chgNo ((Chg.refl No w2).drew)
            have hbk := HB1.out.chg hG2 (fun hS => by have h1 := (H.out.1.lt _ hS).2; have h2 := HGA.out; omega)
            have k0 := hbk.cell 0
            simp [itc] at k0
            have d7 := hl2.box.cell 7
            simp at d7
            obtain ⟨o, hrun, hm⟩ := hl2.map.delete (P := Tryz.prog) (ty := 0) (kt' := 9) (keyLaw_string (Tryz.underlying9)) Tryz.underlying128 x.key
            rw [adel_amap] at hm
            have HL2 := Lib.hid hl2
            have HM2 := Lib.hid hm
            have HG3 := Lib.hid hG2
            clear hG2 hl2 hbk hm b0 b1 b2 b3 b4
            go_wp2_with fail
            go_region
            all_goals
              go_wp2
              go_roundg (n - (k + 1))
              case measure => omega
              case rel =>
                refine ⟨k + 1, _, rfl, rfl, by omega, by go_num, ?_⟩
                rw [HYES.out]
                have hcc : Chg (fun j => j = t.M) w2.drew (setBlock w2.drew t.M o) := chg_setBlock _ _ _
                have hM := HL.out.lt _ HL.out.ownM
                refine ⟨?_, ?_, ?_⟩
                · simp only [List.length_append, List.length_cons, List.length_nil, its_append, its_one]
                  have h1 : w2.ownsRow w.heap.size tItem 5 v2 (lost.length + 1) (its lost ++ itc x) := by simpa using HO2.out
                  have h2 := own_chg (own_chg h1 ((Chg.refl No w2).drew) (fun _ _ h => h)) hcc (fun j hj e => by have := own_new HO2.out j hj; omega)
                  simpa using h2
                · have hks : Gk.keys = ks := by rw [HGK.out]
                  have hnd := HL2.out.nodup
                  have hm2 := HM2.out
                  rw [hks] at hm2 hnd
                  have hok : ({ Gk with keys := adel ks x.key } : Lg).Ok := HL2.out.ok.keysSub (fun key p hp => by
                    rw [aget_adel _ hnd] at hp
                    rw [hks]
                    split at hp
                    · cases hp
                    · exact hp)
                  have h3 := HL2.out.rekey hcc hm2 hok
                  rw [HGK.out] at h3
                  exact h3
                · have h1 : Chg (fun j => j = t.M) w w1 := (H.out.2.2.then HCW.out (fun _ _ h => h.elim)).then HC1.out (fun _ _ h => h.elim)
                  have h2 : Chg (fun j => j = t.M) w w2 := h1.then HG3.out (fun j hj hS => by have := own_new H.out.1 j hS; omega)
                  exact h2.drew.then hcc (fun _ _ h => h)
        | false =>
          rw [hhas] at HHAS
          have HNO : Hid (giveT i G.keys l (k + 1) = (lost, ks)) := by
            show _ = _
            rw [HSUC.out, giveS, if_neg]
            simp only
            rw [HDEC.out, hhas]; exact fun hh => by cases hh.2
          clear hhas
          have HH2 := fun W' => Lib.hid (HHAS.out W')
          clear HHAS
          go_wp2_with fail
          (go_region_with
                ((first
                  | (go_at_call 84; refine ((HH2 _).out (by (repeat (first | (with_reducible exact Chg.refl _ _) | (with_reducible assumption) | (with_reducible refine Chg.drewN ?_ _) | (with_reducible refine Chg.drew ?_) | (with_reducible refine Chg.alloc ?_ _) | (with_reducible refine Chg.setCell ?_ (by first | (left; simp [DevH.foot]; done) | (right; simp; done) | (right; simp; omega)) _))))).mono ?_; rintro e w1 ⟨rfl, hc1⟩; have HC1 : Hid (Chg No W w1) := (by (repeat (first | (with_reducible exact Chg.refl _ _) | (with_reducible assumption) | (with_reducible refine Chg.drewN ?_ _) | (with_reducible refine Chg.drew ?_) | (with_reducible refine Chg.alloc ?_ _) | (with_reducible refine Chg.setCell ?_ (by first | (left; simp [DevH.foot]; done) | (right; simp; done) | (right; simp; omega)) _))) : Chg No W _).trans hc1; clear hc1))))
          all_goals
            go_wp2
            go_roundg (n - (k + 1))
            case measure => omega
            case rel =>
              refine ⟨k + 1, _, rfl, rfl, by omega, by go_num, ?_⟩
              rw [HNO.out, ← HGK.out]
              exact ⟨(own_chg H.out.1 (HCW.out.trans HC1.out) (fun _ _ h => h)), (HLW.out.chgNo HC1.out), (H.out.2.2.then HCW.out (fun _ _ h => h.elim)).then HC1.out (fun _ _ h => h.elim)⟩
      · have he1 : ∀ W, (binOp .eql tPlace (.agg #[.bool q.op, .int .i64 q.rg, .int .i64 q.ix]) (.agg #[.bool false, .int .i64 i, .int .i64 k])).run Tryz.prog W = .ok (.bool false) W := fun W => by rw [he W, decide_eq_false hpl]
        have HNO : Hid (giveT i G.keys l (k + 1) = (lost, ks)) := by
          show _ = _
          rw [HSUC.out, giveS, if_neg]
          simp only
          rw [HDEC.out]; exact fun hh => hpl hh.1
        clear he hpl
        go_wp2_with fail
        go_quiet (fail)
        go_wp2
        go_roundg (n - (k + 1))
        case measure => omega
        case rel =>
          refine ⟨k + 1, _, rfl, rfl, by omega, by go_num, ?_⟩
          rw [HNO.out, ← HGK.out]
          exact ⟨(own_chg H.out.1 (HCW.out.drewN _) (fun _ _ h => h)), (HLW.out.chgNo (by (repeat (first | (with_reducible exact Chg.refl _ _) | (with_reducible assumption) | (with_reducible refine Chg.drewN ?_ _) | (with_reducible refine Chg.drew ?_) | (with_reducible refine Chg.alloc ?_ _) | (with_reducible refine Chg.setCell ?_ (by first | (left; simp [DevH.foot]; done) | (right; simp; done) | (right; simp; omega)) _))))), (H.out.2.2.then HCW.out (fun _ _ h => h.elim)).drewN _⟩
    · obtain rfl : k = n := by omega
      rw [HALL.out] at H
      obtain ⟨lost, ks, hsk⟩ : ∃ lost ks, giveK i G.keys l = (lost, ks) := ⟨_, _, rfl⟩
      have hE := H.out.2.1
      have d3' := hE.box.cell 3
      simp at d3'
      rw [HRR.out] at d3'
      have hnd : (akeys G.keys).Nodup := HND.out
      have hrl : rl G.regs i = l := by rw [HLL.out]; unfold rl; rw [List.getD_eq_getElem?_getD, HS.out]; rfl
      have hok := HL.out.ok.gave hnd (i := i) (by have := (List.getElem?_eq_some_iff.1 HS.out).1; exact this)
      rw [hrl] at hok
      have hf := (hE.rowAt HRR.out).2.2.1
      have f0 := hf (i * 2)
      have f1 := hf (i * 2 + 1)
      have hset := hE.setReg HRR.out (i := i) (by have := (List.getElem?_eq_some_iff.1 HS.out).1; exact this) .no (.slice none 0 0) (SlAt.nil _ _) hok
      have HSET := Lib.hid hset
      obtain ⟨vq, q0, q1, Aq, cq, rfl, _, _⟩ := hE.rowCell HRR.out i S HS.out
      have HH := Lib.hid H.out
      have HKK := Lib.hid hsk
      rw [hsk] at H
      have hii2 : (i : Int) < (G.regs.length : Int) := by have := (List.getElem?_eq_some_iff.1 HS.out).1; omega
      clear hE hnd hrl hok hf hset hsk hlt
      go_wp2
      go_ret
      refine ⟨v5, rfl, ?_, ?_, ?_⟩
      · exact own_chg HH.out.1 HSET.out.2 (fun j hj e => by have := own_new HH.out.1 j hj; have := HL.out.lt _ (HL.out.ownR r (by rw [HRR.out]; rfl)); omega)
      · exact HSET.out.1
      · exact ((HH.out.2.2.mono (T := fun k => k = t.M) (S := t.spot) (fun j _ e => .inr (.inl e))).then HSET.out.2 (fun j hj e => by subst e; exact .inr (.inr (.inl (by rw [HRR.out]; rfl)))) )
end
end Go.Proofs.YtplpbbdakihnfaaGreat
end
