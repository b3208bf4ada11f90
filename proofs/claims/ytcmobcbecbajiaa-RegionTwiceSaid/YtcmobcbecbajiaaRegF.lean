/- region's done, has, item, Get, May, Drop, Number, walked. -/
import Derived.Test.YtcmobcbecbajiaaRegE
import Derived.Deep.RegionHeld3
import Derived.RegionTactic
import Derived.BigRegion
namespace Go.Proofs.Ytcmobcbecbajiaa
open Go.RowKit
attribute [local go_sem ↓] Go.wp_at_zero Go.wp_at_succ
set_option linter.unusedSimpArgs false
set_option linter.unusedVariables false

def Pl.zero : Pl := ⟨false, 0, 0⟩
theorem zero_pl (w : World) : (zeroValue tPlace).run Try.prog w = .ok (plv .zero) w := by kernel_rfl
def Lg.pl (G : Lg) (key : ByteArray) : Pl := (aget G.keys key).getD .zero

section
variable {w : World} {h : DevH} {t : LgH} {G : Lg}
/-- 'l.keys[key]' -/
theorem LgAt.look (hl : LgAt w h t G) (key : ByteArray) (ok : Bool) : (Instr.lookup tKeys (.map (some t.M)) (.string key) ok).run Try.prog w = .ok (if ok then .tuple #[plv (G.pl key), .bool (G.has key)] else plv (G.pl key)) w := by
  have e := hl.map.lookup (keyLaw_string (Try.underlying9)) Try.underlying106 (zero_pl w) key ok
  rw [e, aget_amap]
  unfold Lg.pl Lg.has
  cases aget G.keys key <;> rfl

theorem done_calls {N : Nat} {D : Dev} (hd : DevN N w h D) (hl : LgAt w h t G) :
    Calls Try.prog 70 #[.pointer (some ⟨t.L, 0, none⟩)] w fun e w' => e = .returned (.bool (decide (G.losses ≠ D.losses))) ∧ ∃ n, w' = w.drewN n := by
  have HL := fun n => Lib.hid (losses_calls (w := w.drewN n) (hd.chgNo ((Chg.refl No w).drewN n)))
  have c0 := hl.box.cell 0
  have c1 := hl.box.cell 1
  simp at c0 c1
  obtain ⟨a, ha⟩ : ∃ a, a = G.losses := ⟨_, rfl⟩
  obtain ⟨b, hb⟩ : ∃ b, b = D.losses := ⟨_, rfl⟩
  rw [← ha] at c1 ⊢
  rw [← hb] at HL ⊢
  clear hd hl ha hb
  go_enter Try.func70, Try.ntmps70
  go_wp2_with fail
  go_quiet ((go_at_call 59; exact quiet_left (HL _).out))
  go_wp2
  go_ret
  refine ⟨?_, _, rfl⟩
  congr 2
  by_cases h : a = b <;> simp [h]

theorem has_key {key : ByteArray} (hl : LgAt w h t G) :
    Calls Try.prog 74 #[.pointer (some ⟨t.L, 0, none⟩), .string key] w fun e w' => e = .returned (.bool (G.has key)) ∧ Chg No w w' := by
  have hk := hl.look key true
  have c7 := hl.box.cell 7
  simp at c7
  simp only [if_true, plv] at hk
  obtain ⟨b, hb⟩ : ∃ b, b = G.has key := ⟨_, rfl⟩
  obtain ⟨p, hp⟩ : ∃ p, p = G.pl key := ⟨_, rfl⟩
  rw [← hb, ← hp] at hk
  rw [← hb]
  clear hl hb hp
  go_enter Try.func74, Try.ntmps74
  go_wp2
  go_ret
  exact ⟨rfl, by (repeat (first | (with_reducible exact Chg.refl _ _) | (with_reducible assumption) | (with_reducible refine Chg.drewN ?_ _) | (with_reducible refine Chg.drew ?_) | (with_reducible refine Chg.alloc ?_ _) | (with_reducible refine Chg.setCell ?_ (by first | (left; simp [DevH.foot]; done) | (right; simp; done) | (right; simp; omega)) _)))⟩

theorem may_key {key : ByteArray} (hl : LgAt w h t G) :
    Calls Try.prog 35 #[.pointer (some ⟨t.L, 0, none⟩), .string key] w fun e w' => e = .returned (.bool (G.has key)) ∧ Chg No w w' := by
  have HH := Lib.hid (has_key (key := key) hl)
  clear hl
  go_enter Try.func35, Try.ntmps35
  go_wp2_with fail
  refine HH.out.mono ?_
  rintro e w1 ⟨rfl, hc1⟩
  have HC := Lib.hid hc1
  clear hc1
  go_wp2
  go_ret
  exact ⟨rfl, HC.out⟩

theorem gnum_calls (hl : LgAt w h t G) :
    Calls Try.prog 28 #[.pointer (some ⟨t.L, 0, none⟩)] w fun e w' => e = .returned (.int .u64 G.number) ∧ w = w' := by
  have c6 := hl.box.cell 6
  simp at c6
  clear hl
  go_enter Try.func28, Try.ntmps28
  go_wp2
  go_ret
  exact ⟨rfl, rfl⟩

/-- the map's block is changed, and tells another list of keys -/
theorem LgAt.rekey {w' : World} {ks : Keys} (hl : LgAt w h t G) (hc : Chg (fun k => k = t.M) w w') (hm : MapIs skey w' t.M (amap plv ks)) (ok : ({ G with keys := ks } : Lg).Ok) : LgAt w' h t { G with keys := ks } := by
  have hL : ¬ t.L = t.M := fun e => hl.map.ne_blk hl.box e.symm
  have hcl : ∀ {g T cs fz}, w.heap[g]? = some (.cells cs T fz) → ¬ g = t.M := fun hg e => hl.map.ne_blk hg e.symm
  have hown : ∀ {v : Value} {base e size n : Nat} {xs : List Value}, w.ownsRow base e size v n xs → w'.ownsRow base e size v n xs := by
    intro v base e size n xs ho
    refine own_chg ho hc (fun k hk => ?_)
    rcases ho.2 with ⟨e1, _⟩ | ⟨g, cap, cur, e1, _, hg, _⟩
    · rw [e1] at hk; simp [Value.ownBlock] at hk
    · rw [e1] at hk
      have : g = k := by simpa [Value.ownBlock] using hk
      subst this
      exact hcl hg
  exact { hl with
    box := hl.box.chg hc hL
    regs := by
      obtain ⟨ses, h1, h2, h3⟩ := hl.regs
      refine ⟨ses, h1, hown h2, fun i S hS => ?_⟩
      obtain ⟨v, e, A, c, h4, h5, h6, h7⟩ := h3 i S hS
      exact ⟨v, e, A, c, h4, h5, h6.chg hc (fun g cur fz hg => hcl hg), h7⟩
    opn := hown hl.opn
    map := hm
    lt := fun k hk => Nat.lt_of_lt_of_le (hl.lt k hk) hc.size
    ok := ok }

theorem Lg.Ok.drop {G : Lg} (ho : G.Ok) (hn : (akeys G.keys).Nodup) (key : ByteArray) : (G.drop key).Ok :=
  { ho with
    keys := by
      intro k p hp
      have h : aget (adel G.keys key) k = some p := hp
      rw [aget_adel _ hn] at h
      split at h
      · cases h
      · exact ho.keys k p h }

theorem gdrop_calls (hl : LgAt w h t G) (key : ByteArray) :
    Calls Try.prog 34 #[.pointer (some ⟨t.L, 0, none⟩), .string key] w fun e w' => e = .returned (.tuple #[]) ∧ LgAt w' h t (G.drop key) ∧ Chg (fun k => k = t.M) w w' := by
  have c7 := hl.box.cell 7
  simp at c7
  obtain ⟨o, hrun, hm⟩ := hl.map.delete (P := Try.prog) (ty := 0) (kt' := 9) (keyLaw_string (Try.underlying9)) Try.underlying106 key
  rw [adel_amap] at hm
  have hc := chg_setBlock w t.M o
  have hg := hl.rekey hc hm (hl.ok.drop hl.nodup key)
  have HG := Lib.hid (And.intro hg hc)
  clear hl hm hc hg
  go_enter Try.func34, Try.ntmps34
  go_wp2
  go_end0
  exact ⟨rfl, HG.out⟩

/-- an item's cells -/
theorem SlAt.item {v : Value} {l : List Item} {ix : Nat} {x : Item} (hs : SlAt w t v l) (hx : l[ix]? = some x) :
    ∃ g off c, v = .slice (some ⟨g, off, none⟩) l.length c ∧ g < w.heap.size ∧ w.cell? ⟨g, off + ix * 5, none⟩ = some (.string x.key) ∧ w.cell? ⟨g, off + ix * 5 + 1, none⟩ = some (.string x.val) ∧ w.cell? ⟨g, off + ix * 5 + 2, none⟩ = some (.int .u32 x.flags.toNat) ∧
      w.cell? ⟨g, off + ix * 5 + 3, none⟩ = some (.int .i64 x.exp.toInt) ∧ w.cell? ⟨g, off + ix * 5 + 4, none⟩ = some (.int .u64 x.ver.toNat) := by
  obtain ⟨A, c, rfl, h1, h2, _⟩ := hs
  have hlt : ix < l.length := (List.getElem?_eq_some_iff.1 hx).1
  obtain ⟨g, off, rfl, hg, hc⟩ := h2.at_ (j := ix * 5) (by omega)
  have c0 := hc (ix * 5 + 0) _ (its_get l ix 0 x hx (by omega))
  have c1 := hc (ix * 5 + 1) _ (its_get l ix 1 x hx (by omega))
  have c2 := hc (ix * 5 + 2) _ (its_get l ix 2 x hx (by omega))
  have c3 := hc (ix * 5 + 3) _ (its_get l ix 3 x hx (by omega))
  have c4 := hc (ix * 5 + 4) _ (its_get l ix 4 x hx (by omega))
  simp only [itc, List.getElem_cons_zero, List.getElem_cons_succ, ← Nat.add_assoc, Nat.add_zero] at c0 c1 c2 c3 c4
  exact ⟨g, off, c, rfl, hg, c0, c1, c2, c3, c4⟩
theorem LgAt.openAs (hl : LgAt w h t G) : ∃ A c, t.O = .slice A G.opn.length c ∧ G.opn.length ≤ c ∧ Rd w tItem A (G.opn.length * 5) (its G.opn) := own_slice hl.opn
theorem LgAt.openItem (hl : LgAt w h t G) {ix : Nat} {x : Item} (hx : G.opn[ix]? = some x) :
    ∃ g off c, t.O = .slice (some ⟨g, off, none⟩) G.opn.length c ∧ g < w.heap.size ∧ w.cell? ⟨g, off + ix * 5, none⟩ = some (.string x.key) ∧ w.cell? ⟨g, off + ix * 5 + 1, none⟩ = some (.string x.val) ∧ w.cell? ⟨g, off + ix * 5 + 2, none⟩ = some (.int .u32 x.flags.toNat) ∧
      w.cell? ⟨g, off + ix * 5 + 3, none⟩ = some (.int .i64 x.exp.toInt) ∧ w.cell? ⟨g, off + ix * 5 + 4, none⟩ = some (.int .u64 x.ver.toNat) := by
  obtain ⟨A, c, hO, hnc, hr⟩ := hl.openAs
  rw [hO]
  exact SlAt.item (t := ⟨0, 0, .slice none 0 0, .slice none 0 0, fun _ => True⟩) ⟨A, c, rfl, hnc, hr, fun _ _ _ _ => ⟨trivial, by simp [Value.ownBlock]⟩⟩ hx
/-- regions' row as the walk reads it -/
theorem LgAt.row (hl : LgAt w h t G) : ∃ g off c, t.R = .slice (some ⟨g, off, none⟩) G.regs.length c ∧ g < w.heap.size ∧ ∀ (i : Nat) (S : Sealed), G.regs[i]? = some S → ∃ v, w.cell? ⟨g, off + i * 2, none⟩ = some (.int .u64 S.num) ∧ w.cell? ⟨g, off + i * 2 + 1, none⟩ = some v ∧ SlAt w t v S.l := by
  obtain ⟨ses, hn, ho, hs⟩ := hl.regs
  obtain ⟨A, c, hR, hnc, hrd⟩ := own_slice ho
  have hpos := hl.ok.pos
  obtain ⟨g, off, rfl, hg, hx⟩ := hrd.at_ (j := 0) (by omega)
  refine ⟨g, off, c, hR, hg, fun i S hS => ?_⟩
  obtain ⟨v, hv, hsl⟩ := hs i S hS
  exact ⟨v, hx (i * 2) _ (secs_get ses i _ hv).1, hx (i * 2 + 1) _ (secs_get ses i _ hv).2, hsl⟩

set_option maxRecDepth 100000 in
set_option maxHeartbeats 2000000 in
theorem item_open (hl : LgAt w h t G) (ix : Nat) (x : Item) (hx : G.opn[ix]? = some x) :
    Calls Try.prog 73 #[.pointer (some ⟨t.L, 0, none⟩), plv ⟨true, 0, ix⟩] w fun e w' => e = .returned (itemV x) ∧ Chg No w w' := by
  obtain ⟨g, off, c, hO, hg, c0, c1, c2, c3, c4⟩ := hl.openItem hx
  have d4 := hl.box.cell 4
  simp at d4
  rw [hO] at d4
  have hlt : ix < G.opn.length := (List.getElem?_eq_some_iff.1 hx).1
  have hmax := hl.ok.len
  have hll := hl.lt _ hl.ownL
  obtain ⟨n, hn⟩ : ∃ n, n = G.opn.length := ⟨_, rfl⟩
  rw [← hn] at d4 hlt hmax
  have hi : (ix : Int) < (n : Int) := by omega
  clear hl hx hO hn
  unfold plv
  go_enter Try.func73, Try.ntmps73
  go_wp2_with fail
  go_region
  all_goals
    go_wp2
    refine bodyPost_ret (v := itemV x) ?_ rfl ⟨rfl, by (repeat (first | (with_reducible exact Chg.refl _ _) | (with_reducible assumption) | (with_reducible refine Chg.drewN ?_ _) | (with_reducible refine Chg.drew ?_) | (with_reducible refine Chg.alloc ?_ _) | (with_reducible refine Chg.setCell ?_ (by first | (left; simp [DevH.foot]; done) | (right; simp; done) | (right; simp; omega)) _)))⟩
    simp [results, Try.results73, go_sem]

set_option maxRecDepth 100000 in
set_option maxHeartbeats 2000000 in
theorem item_reg (hl : LgAt w h t G) (rg ix : Nat) (S : Sealed) (x : Item) (hS : G.regs[rg]? = some S) (hx : S.l[ix]? = some x) :
    Calls Try.prog 73 #[.pointer (some ⟨t.L, 0, none⟩), plv ⟨false, rg, ix⟩] w fun e w' => e = .returned (itemV x) ∧ Chg No w w' := by
  obtain ⟨r, ro, rc, hR, hrg, hrow⟩ := hl.row
  obtain ⟨v, _, e1, hsl⟩ := hrow rg S hS
  obtain ⟨g, off, c, rfl, hg, c0, c1, c2, c3, c4⟩ := hsl.item hx
  have d3 := hl.box.cell 3
  simp at d3
  rw [hR] at d3
  have hlt : ix < S.l.length := (List.getElem?_eq_some_iff.1 hx).1
  have hrl : rg < G.regs.length := (List.getElem?_eq_some_iff.1 hS).1
  have hmax := (hl.ok.small S (List.mem_of_getElem? hS)).1
  have hmost := hl.ok.most
  have hll := hl.lt _ hl.ownL
  obtain ⟨n, hn⟩ : ∃ n, n = S.l.length := ⟨_, rfl⟩
  obtain ⟨m, hm⟩ : ∃ m, m = G.regs.length := ⟨_, rfl⟩
  rw [← hn] at e1 hlt hmax
  rw [← hm] at d3 hrl hmost
  have hi : (ix : Int) < (n : Int) := by omega
  have hri : (rg : Int) < (m : Int) := by omega
  clear hl hx hS hR hn hm hrow hsl
  unfold plv
  go_enter Try.func73, Try.ntmps73
  go_wp2_with fail
  go_region
  all_goals
    go_wp2
    refine bodyPost_ret (v := itemV x) ?_ rfl ⟨rfl, by (repeat (first | (with_reducible exact Chg.refl _ _) | (with_reducible assumption) | (with_reducible refine Chg.drewN ?_ _) | (with_reducible refine Chg.drew ?_) | (with_reducible refine Chg.alloc ?_ _) | (with_reducible refine Chg.setCell ?_ (by first | (left; simp [DevH.foot]; done) | (right; simp; done) | (right; simp; omega)) _)))⟩
    simp [results, Try.results73, go_sem]

abbrev zrw : Array Value := #[.string ⟨#[]⟩, .string ⟨#[]⟩, .int .u32 0, .int .i64 0, .int .u64 0]
theorem zrw_z (w : World) : Blk (w.alloc (.cells zrw tItem)) w.heap.size tItem zrw := Blk.new _ _ _
set_option maxRecDepth 100000 in
set_option maxHeartbeats 2000000 in
theorem gget_calls (hl : LgAt w h t G) (key : ByteArray) :
    Calls Try.prog 27 #[.pointer (some ⟨t.L, 0, none⟩), .string key] w fun e w' => e = .returned (.tuple #[itemV (G.get key), .int .i64 (G.getE key)]) ∧ Chg No w w' := by
  have hk := fun W => Lib.hid (fun hc : Chg No w W => (hl.chgNo hc).look key true)
  have c7 := hl.box.cell 7
  simp at c7
  have hll := hl.lt _ hl.ownL
  cases hg : aget G.keys key with
  | none =>
    have hG : G.get key = Item.zero := by unfold Lg.get; rw [hg]
    have hE : G.getE key = 5 := by unfold Lg.getE Lg.has; rw [hg]; rfl
    have hh : G.has key = false := by unfold Lg.has; rw [hg]; rfl
    have hp : G.pl key = .zero := by unfold Lg.pl; rw [hg]; rfl
    rw [hG, hE]
    have hk1 := (hk (w.alloc (.cells zrw tItem))).out (by (repeat (first | (with_reducible exact Chg.refl _ _) | (with_reducible assumption) | (with_reducible refine Chg.drewN ?_ _) | (with_reducible refine Chg.drew ?_) | (with_reducible refine Chg.alloc ?_ _) | (with_reducible refine Chg.setCell ?_ (by first | (left; simp [DevH.foot]; done) | (right; simp; done) | (right; simp; omega)) _))))
    rw [hh, hp] at hk1
    simp only [if_true, plv, Pl.zero, zrw] at hk1
    clear hl hk hg hG hE hh hp
    go_enter Try.func27, Try.ntmps27
    go_wp2
    refine bodyPost_ret (v := .tuple #[itemV Item.zero, .int .i64 5]) ?_ rfl ⟨rfl, by (repeat (first | (with_reducible exact Chg.refl _ _) | (with_reducible assumption) | (with_reducible refine Chg.drewN ?_ _) | (with_reducible refine Chg.drew ?_) | (with_reducible refine Chg.alloc ?_ _) | (with_reducible refine Chg.setCell ?_ (by first | (left; simp [DevH.foot]; done) | (right; simp; done) | (right; simp; omega)) _)))⟩
    simp [results, Try.results27, go_sem]
    try exact ⟨rfl, rfl, rfl, rfl, rfl⟩
  | some p =>
    have hE : G.getE key = 0 := by unfold Lg.getE Lg.has; rw [hg]; rfl
    have hh : G.has key = true := by unfold Lg.has; rw [hg]; rfl
    have hp : G.pl key = p := by unfold Lg.pl; rw [hg]; rfl
    have HI : Hid (∀ W, Chg No w W → Calls Try.prog 73 #[.pointer (some ⟨t.L, 0, none⟩), .agg #[.bool p.op, .int .i64 p.rg, .int .i64 p.ix]] W fun e w' => e = .returned (itemV (G.get key)) ∧ Chg No W w') := by
      intro W hc
      have hok := hl.ok.keys key p hg
      unfold Lg.plOk at hok
      have hG : G.get key = G.item p := by unfold Lg.get; rw [hg]
      rw [hG]
      obtain ⟨op, rg, ix⟩ := p
      unfold Lg.item
      cases op with
      | true =>
        simp only [if_true] at hok ⊢
        obtain ⟨rfl, x, hx, _⟩ := hok
        rw [show G.opn.getD ix Item.zero = x from by rw [List.getD_eq_getElem?_getD, hx]; rfl]
        exact item_open (hl.chgNo hc) ix x hx
      | false =>
        simp only [Bool.false_eq_true, if_false] at hok ⊢
        obtain ⟨S, x, hS, hx, _⟩ := hok
        rw [show (rl G.regs rg).getD ix Item.zero = x from by unfold rl; rw [List.getD_eq_getElem?_getD, List.getD_eq_getElem?_getD, hS]; show (S.l[ix]?).getD _ = x; rw [hx]; rfl]
        exact item_reg (hl.chgNo hc) rg ix S x hS hx
    rw [hE]
    obtain ⟨x, hx⟩ : ∃ x, x = G.get key := ⟨_, rfl⟩
    rw [← hx] at HI ⊢
    have hk1 := (hk (w.alloc (.cells zrw tItem))).out (by (repeat (first | (with_reducible exact Chg.refl _ _) | (with_reducible assumption) | (with_reducible refine Chg.drewN ?_ _) | (with_reducible refine Chg.drew ?_) | (with_reducible refine Chg.alloc ?_ _) | (with_reducible refine Chg.setCell ?_ (by first | (left; simp [DevH.foot]; done) | (right; simp; done) | (right; simp; omega)) _))))
    rw [hh, hp] at hk1
    simp only [if_true, plv, zrw] at hk1
    clear hl hk hg hE hh hp hx
    go_enter Try.func27, Try.ntmps27
    go_wp2_with fail
    have HI2 := fun W => Lib.hid (HI.out W)
    refine ((HI2 _).out (by (repeat (first | (with_reducible exact Chg.refl _ _) | (with_reducible assumption) | (with_reducible refine Chg.drewN ?_ _) | (with_reducible refine Chg.drew ?_) | (with_reducible refine Chg.alloc ?_ _) | (with_reducible refine Chg.setCell ?_ (by first | (left; simp [DevH.foot]; done) | (right; simp; done) | (right; simp; omega)) _))))).mono ?_
    rintro e w1 ⟨rfl, hc1⟩
    have HC := Lib.hid hc1
    have HZ := Lib.hid (((Blk.new w tItem zrw).alloc _).chg hc1 (fun h => h))
    have hz : w.heap.size < w1.heap.size := HZ.out.lt
    clear hc1 HI
    (have z0 := HZ.out.cell 0; have z1 := HZ.out.cell 1; have z2 := HZ.out.cell 2; have z3 := HZ.out.cell 3; have z4 := HZ.out.cell 4; have f0 := HZ.out.frozen 0; have f1 := HZ.out.frozen 1; have f2 := HZ.out.frozen 2; have f3 := HZ.out.frozen 3; have f4 := HZ.out.frozen 4; simp at z0 z1 z2 z3 z4)
    go_wp2
    refine bodyPost_ret (v := .tuple #[itemV x, .int .i64 0]) ?_ rfl ⟨rfl, ?_⟩
    · simp [results, Try.results27, go_sem, z0, z1, z2, z3, z4, hz]
    · have h0 : Chg No w w1 := (by (repeat (first | (with_reducible exact Chg.refl _ _) | (with_reducible assumption) | (with_reducible refine Chg.drewN ?_ _) | (with_reducible refine Chg.drew ?_) | (with_reducible refine Chg.alloc ?_ _) | (with_reducible refine Chg.setCell ?_ (by first | (left; simp [DevH.foot]; done) | (right; simp; done) | (right; simp; omega)) _))) : Chg No w _).trans HC.out
      (repeat (first | (with_reducible exact Chg.refl _ _) | (with_reducible assumption) | (with_reducible refine Chg.drewN ?_ _) | (with_reducible refine Chg.drew ?_) | (with_reducible refine Chg.alloc ?_ _) | (with_reducible refine Chg.setCell ?_ (by first | (left; simp [DevH.foot]; done) | (right; simp; done) | (right; simp; omega)) _)))
end
end Go.Proofs.Ytcmobcbecbajiaa
