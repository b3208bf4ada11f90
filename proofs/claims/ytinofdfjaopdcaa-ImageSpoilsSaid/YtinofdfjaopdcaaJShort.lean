/- ImageShort: the walk. -/
import Derived.Test.YtinofdfjaopdcaaJShortA
namespace Go.Proofs.Ytinofdfjaopdcaa
open Go.RowKit
attribute [local go_sem ↓] Go.wp_at_zero Go.wp_at_succ
set_option linter.unusedSimpArgs false
set_option linter.unusedVariables false

theorem own_store {w : World} {base n c : Nat} {A : Option Addr} {xs : List Value} {e : TypeId} (ho : w.ownsRow base e 1 (.slice A n c) n xs) (j : Nat) (hj : j < n) (u : Value) :
    ∃ g, A = some ⟨g, 0, none⟩ ∧ base ≤ g ∧ w.frozen? ⟨g, j, none⟩ = false ∧ (∃ u0, w.cell? ⟨g, j, none⟩ = some u0) ∧ Rd (w.setCell ⟨g, j, none⟩ u) e (some ⟨g, 0, none⟩) n (xs.set j u) ∧ (Value.slice A n c).ownBlock = some g := by
  rcases ho.2 with ⟨h0, hn0⟩ | ⟨g, cap, cur, hv, hb, hg, h1, h2, h3, h4⟩
  · omega
  · cases hv
    have hB : Blk w g e cur := hg
    have hjc : j < cur.size := by omega
    refine ⟨g, rfl, hb, hB.frozen j, ⟨cur[j], ?_⟩, ?_, rfl⟩
    · rw [hB.cell j, Array.getElem?_eq_getElem hjc]
    · have := Rd.ofBlk (k := n) (hB.set_ j u) (by simp; omega)
      rw [Array.toList_setIfInBounds, List.take_set] at this
      rw [Nat.mul_one] at h4
      rwa [h4] at this

/-- the append, guarded, as one step of a region that draws its order -/
theorem step_appW {P : Program} (w : World) {ops : Array Oper} {o : Oper} {a : Act} {K : Act → World → Prop} {Q : Exit → Act → World → Prop} {E : Prop} (hw : Region.wanted o (yielded ops a.tmps) = true) (s x : Operand) (t : TypeId)
    (ho : o.op = .call { callee := .builtin .append, args := #[s, x], argTypes := #[t, t] })
    (e : TypeId) {z : Value} {size bytes : Nat} (ht : P.underlying t = some (.slice e)) (hi : TI P e z size bytes) (hzs : z.cells.size = size) (hsz : 0 < size)
    (base : Nat) (v : Value) (n : Nat) (xs : List Value) (hs : a.eval s = v) (hown : w.ownsRow base e size v n xs)
    (te : TypeId) (A : Option Addr) (m c : Nat) (news : List Value) (hx : a.eval x = .slice A m c) (hr : Rd w te A (m * size) news) (h1 : ∀ u ∈ news, u.oneCell' = true)
    (h63 : n + m ≤ maxLen) (hbytes : (n + m) * bytes ≤ 140737488355328) (hbase : base ≤ w.heap.size)
    (h : ∀ v' w', w'.ownsRow base e size v' (n + m) (xs ++ news) → w.grownBy w' v.ownBlock → (v'.ownBlock = v.ownBlock ∨ v'.ownBlock = some w.heap.size) → K (a.put o.dst v') w') :
    if Region.wanted o (yielded ops a.tmps) = true then Oper.wp P o a w K Q else E := by
  rw [if_pos hw]
  obtain ⟨v', w', hrun, h2, h3, h4⟩ := run_app (P := P) w base t o.type e ht hi hzs hsz v n xs hown te A m c news hr h1 h63 hbytes hbase
  unfold Oper.wp execOp
  simp only [ho, resolve, invoke, builtin, Sem.run_bind, Sem.run_pure, Result.andThen_ok, List.map_toArray, List.map_cons, List.map_nil, hs, hx, hrun]
  exact h v' w' h2 h3 h4

theorem new20_calls (w : World) : Calls Try.prog 16 #[.int .i64 20] w fun e w' => ∃ h : DevH, e = .returned (.tuple #[.pointer (some ⟨h.d, 0, none⟩), .int .i64 0]) ∧ DevAt w' h (Dev.new 20) ∧ Chg No w w' ∧ ∀ k, h.foot k → w.heap.size ≤ k := new_calls 20 w (by decide) (by decide)
theorem er_okay {D D' : Dev} {first pages : Int} {l : List Item} {p m : Nat} {er : Int} (h : DumpR D first pages l p m er D') (hD : D.Ok) (hm : D.may first pages = true) : er = 0 ∨ er = 1 := by
  rcases (h.okay hD hm).2.2 with ⟨h, _⟩ | ⟨h, _⟩
  · exact .inl h
  · exact .inr h

set_option maxRecDepth 100000 in
set_option maxHeartbeats 4000000 in
theorem jshort_calls (A A2 : Option Addr) (n c n2 c2 : Nat) (l l2 : List Item) (t t2 : TypeId) (w : World) (hn : l.length = n) (hnc : n ≤ c) (hr : Rd w t A (n * 5) (its l)) (hn2 : l2.length = n2) (hnc2 : n2 ≤ c2) (hr2 : Rd w t2 A2 (n2 * 5) (its l2)) :
    Calls Try.prog 6 #[.slice A n c, .slice A2 n2 c2] w fun e w' => e = .returned (.bool true) ∧ Chg No w w' := by
  have HAW := Lib.hid (awake15_calls w)
  have HN := fun W => Lib.hid (new20_calls W)
  have HR := Lib.hid hr
  have HLN := Lib.hid hn
  have HR2 := Lib.hid hr2
  have HLN2 := Lib.hid hn2
  clear hr hn hr2 hn2
  by_cases h0 : n < 1
  · have b0 : decide ((n : Int) < (1 : Int)) = true := by simp; omega
    have g0 : ((n : Int) < (1 : Int)) := by omega
    clear h0
    clear HN
    go_enter Try.func6, Try.ntmps6
    go_wp2_with fail
    refine HAW.out.mono ?_
    rintro e w0 ⟨rfl, hc0⟩
    go_wp2
    go_ret
    exact ⟨rfl, hc0⟩
  have b0 : decide ((n : Int) < (1 : Int)) = false := by simp; omega
  have g0 : ¬ ((n : Int) < (1 : Int)) := by omega
  by_cases h1 : 8 < n
  · have b1 : decide ((8 : Int) < (n : Int)) = true := by simp; omega
    have g1 : ((8 : Int) < (n : Int)) := by omega
    clear h0 h1
    clear HN
    go_enter Try.func6, Try.ntmps6
    go_wp2_with fail
    refine HAW.out.mono ?_
    rintro e w0 ⟨rfl, hc0⟩
    go_wp2
    go_ret
    exact ⟨rfl, hc0⟩
  have b1 : decide ((8 : Int) < (n : Int)) = false := by simp; omega
  have g1 : ¬ ((8 : Int) < (n : Int)) := by omega
  by_cases h2 : n2 < 1
  · have b2 : decide ((n2 : Int) < (1 : Int)) = true := by simp; omega
    have g2 : ((n2 : Int) < (1 : Int)) := by omega
    clear h0 h1 h2
    clear HN
    go_enter Try.func6, Try.ntmps6
    go_wp2_with fail
    refine HAW.out.mono ?_
    rintro e w0 ⟨rfl, hc0⟩
    go_wp2
    go_ret
    exact ⟨rfl, hc0⟩
  have b2 : decide ((n2 : Int) < (1 : Int)) = false := by simp; omega
  have g2 : ¬ ((n2 : Int) < (1 : Int)) := by omega
  by_cases h3 : 8 < n2
  · have b3 : decide ((8 : Int) < (n2 : Int)) = true := by simp; omega
    have g3 : ((8 : Int) < (n2 : Int)) := by omega
    clear h0 h1 h2 h3
    clear HN
    go_enter Try.func6, Try.ntmps6
    go_wp2_with fail
    refine HAW.out.mono ?_
    rintro e w0 ⟨rfl, hc0⟩
    go_wp2
    go_ret
    exact ⟨rfl, hc0⟩
  have b3 : decide ((8 : Int) < (n2 : Int)) = false := by simp; omega
  have g3 : ¬ ((8 : Int) < (n2 : Int)) := by omega
  have hn8 : n ≤ 8 := by omega
  have hn28 : n2 ≤ 8 := by omega
  clear h0 h1 h2 h3
  go_enter Try.func6, Try.ntmps6
  go_wp2_with fail
  refine HAW.out.mono ?_
  rintro e w0 ⟨rfl, hc0⟩
  have HC0 := Lib.hid hc0
  clear hc0 HAW
  go_wp2_with fail
  refine (HN _).out.mono ?_
  rintro e w1 ⟨h, rfl, hd1, hc1, hf1⟩
  have HC1 := Lib.hid (HC0.out.trans hc1)
  have HF1 : Hid (∀ k, h.foot k → w.heap.size ≤ k) := fun k hk => Nat.le_trans HC0.out.size (hf1 k hk)
  have HDU := Lib.hid (dump_calls hd1 0 1 (by decide) (by decide) A n c l t HLN.out (HR.out.chg HC1.out (fun _ _ _ _ h => h)) (by omega))
  clear hd1 hc1 hf1 HN
  go_wp2_with fail
  refine HDU.out.mono ?_
  rintro e w2 ⟨p, m, er, D2, rfl, hd2, hc2, hR1⟩
  have HC2 : Hid (Chg No w w2) := HC1.out.then hc2 (fun i hi hT => by have := HF1.out i hT; omega)
  have hmay1 : (Dev.new 20).may 0 1 = true := by decide
  obtain ⟨o1, n1, _⟩ := hR1.okay (new_Ok 20) hmay1
  have he1 := er_okay hR1 (new_Ok 20) hmay1
  have hmay2 : D2.may 10 1 = true := may_of (f := 10) (p := 1) (by rw [n1]; show 11 ≤ 20; omega)
  have hml := hR1.sized
  rw [HLN.out] at hml
  have HDU2 := Lib.hid (dump_calls hd2 10 1 (by decide) (by decide) A2 n2 c2 l2 t2 HLN2.out (HR2.out.chg HC2.out (fun _ _ _ _ h => h)) (by omega))
  have HO1 := Lib.hid o1
  have HM2 := Lib.hid hmay2
  have HD1 := Lib.hid hR1
  clear hd2 hc2 hR1 HDU hmay1 hmay2 o1 n1
  go_wp2_with fail
  refine HDU2.out.mono ?_
  rintro e w3 ⟨q, m2, er2, D3, rfl, hd3, hc3, hR2⟩
  have HC3 : Hid (Chg No w w3) := HC2.out.then hc3 (fun i hi hT => by have := HF1.out i hT; omega)
  have he2 := er_okay hR2 HO1.out HM2.out
  have hml2 := hR2.sized
  rw [HLN2.out] at hml2
  have HD2 := Lib.hid hR2
  have HD3 := Lib.hid hd3
  clear hd3 hc3 hR2 HDU2 HO1 HM2
  rcases he1 with rfl | rfl
  rotate_left
  · clear he2 HD1 HD2
    go_wp2
    go_ret
    exact ⟨rfl, HC3.out⟩
  rcases he2 with rfl | rfl
  rotate_left
  · clear HD1 HD2
    go_wp2
    go_ret
    exact ⟨rfl, HC3.out⟩
  by_cases hp1 : p = 1
  rotate_left
  · have x1 : ((p : Int) != 1) = true := by simp; omega
    have x2 : ¬ (p : Int) = 1 := by omega
    clear HD1 HD2 hp1
    go_wp2
    go_ret
    exact ⟨rfl, HC3.out⟩
  by_cases hq1 : q = 1
  rotate_left
  · have x1 : ((q : Int) != 1) = true := by simp; omega
    have x2 : ¬ (q : Int) = 1 := by omega
    obtain rfl : 1 = p := hp1.symm
    clear HD1 HD2 hq1
    go_wp2
    go_ret
    exact ⟨rfl, HC3.out⟩
  obtain rfl : 1 = p := hp1.symm
  obtain rfl : 1 = q := hq1.symm
  obtain ⟨y1, y2, y3, y4, y5⟩ := short_law HD1.out HD2.out
  have HY3 := Lib.hid y3
  have HY5 := Lib.hid y5
  have hrd := fun (W : World) => Lib.hid (fun hd : DevN w3.heap.size W h D3 => read_calls hd 10)
  obtain ⟨px, hpx⟩ : ∃ px, px = D3.read 10 := ⟨_, rfl⟩
  rw [← hpx] at HY5 y2
  have HPX := Lib.hid y2
  have HRD : ∀ W, Hid (DevN w3.heap.size W h D3 → Calls Try.prog 22 #[.pointer (some ⟨h.d, 0, none⟩), .int .i64 10] W fun e w' => ∃ v, e = .returned (.tuple #[v, .int .i64 0]) ∧ w'.ownsRow W.heap.size tU8 1 v 384 (bys px) ∧ DevN w3.heap.size w' h D3 ∧ Chg h.foot W w') := fun W => fun hd => by
    have := read_calls hd 10
    rw [y1, ← hpx, y2] at this
    exact this
  clear hrd hpx y1 y2 y3 y4 y5 HD1 HD2
  go_wp2
  go_loopg [13, 14] m (fun g v13 v14 wr => ∃ (k s : Nat), v14 = .int .i64 k ∧ k ≤ m ∧ m - k = g ∧ v13 = .int .i64 s ∧ Hid (s = isum (l.take k) ∧ Chg No w3 wr))
  case atStart => exact ⟨0, 0, rfl, by omega, by omega, rfl, ⟨rfl, Chg.refl _ _⟩⟩
  case round =>
    obtain ⟨k, s, rfl, hk, hg, rfl, H⟩ := hrel
    subst hg
    by_cases h0 : k < m
    · have hkn' : k < n := by omega
      obtain ⟨x, hx⟩ : ∃ x, l[k]? = some x := ⟨_, List.getElem?_eq_getElem (by have := HLN.out; omega)⟩
      obtain ⟨g, off, rfl, hc⟩ := rd_at6 HR.out hkn' hx
      obtain ⟨a0, a1, a2, a3, a4⟩ := hc _ (HC3.out.trans H.out.2)
      have hki : (0 : Int) ≤ (k : Int) := by omega
      have hkm : (k : Int) < (m : Int) := by omega
      have hkn : (k : Int) < (n : Int) := by omega
      have hgx : x.good = true := by have := HY3.out; unfold goods at this; rw [List.all_eq_true] at this; exact this x (List.mem_of_getElem? hx)
      simp only [Item.good, Bool.and_eq_true, decide_eq_true_eq] at hgx
      have hsm : s ≤ 78360 := by rw [H.out.1]; exact isum_small (goods_takeN HY3.out k) (by omega)
      have hxk : x.key.size ≤ 250 := hgx.1.1.2
      have hxv : x.val.size ≤ 1024 := hgx.1.2
      have HS : Hid (s + 32 + x.key.size + x.val.size = isum (l.take (k + 1))) := by show _ = _; rw [isum_take hx, ← H.out.1]; unfold Item.size; omega
      have e1 : IntKind.i64.wrap ((s : Int) + 32) = (s : Int) + 32 := IntWalk.i64_in _ (by omega)
      have e2 : IntKind.i64.wrap ((s : Int) + 32 + (x.key.size : Int)) = (s : Int) + 32 + (x.key.size : Int) := IntWalk.i64_in _ (by omega)
      have e3 : IntKind.i64.wrap ((s : Int) + 32 + (x.key.size : Int) + (x.val.size : Int)) = (s : Int) + 32 + (x.key.size : Int) + (x.val.size : Int) := IntWalk.i64_in _ (by omega)
      clear hx hc hgx
      go_wp2_with fail
      go_quiet (fail)
      go_wp2
      go_roundg (m - (k + 1))
      case measure => omega
      case rel => exact ⟨k + 1, s + 32 + x.key.size + x.val.size, by go_num, by omega, rfl, by go_num, ⟨HS.out, by have := H.out.2; (repeat (first | (with_reducible exact Chg.refl _ _) | (with_reducible assumption) | (with_reducible refine Chg.drewN ?_ _) | (with_reducible refine Chg.drew ?_) | (with_reducible refine Chg.alloc ?_ _) | (with_reducible refine Chg.setCell ?_ (by first | (left; simp [DevH.foot]; done) | (right; simp; done) | (right; simp; omega)) _)))⟩⟩
    · obtain rfl : m = k := by omega
      have HS := Lib.hid H.out.1
      have HCR := Lib.hid H.out.2
      have HC4 := Lib.hid (HC3.out.trans H.out.2)
      have HRE := Lib.hid ((HRD wr).out (DevN.chgNo (show DevN w3.heap.size w3 h D3 from HD3.out) H.out.2))
      clear H h0 hk HRD
      go_wp2_with fail
      refine HRE.out.mono ?_
      rintro e w5 ⟨v5, rfl, ho5, hd5, hc5⟩
      have HC5 : Hid (Chg No w w5) := HC4.out.then hc5 (fun i hi hT => by have := HF1.out i hT; omega)
      obtain ⟨A5, c5, rfl, hnc5, _⟩ := own_slice ho5
      obtain ⟨gx, rfl, hgx, hfz, ⟨u0, hu0⟩, hrx, hob⟩ := own_store ho5 4 (by omega) (.int .u8 1)
      have HGX : Hid (w.heap.size ≤ gx) := Nat.le_trans HC4.out.size hgx
      obtain ⟨w6, hw6⟩ : ∃ w6, w6 = w5.setCell ⟨gx, 4, none⟩ (.int .u8 1) := ⟨_, rfl⟩
      have hcg : Chg (fun i => i = gx) w5 w6 := by rw [hw6]; exact chg_setCell w5 ⟨gx, 4, none⟩ _
      have hd6 : DevAt w6 h D3 := by
        refine (hd5.chg hcg (fun hS => own_foot hd5 ho5 (by decide) (by decide) _ hob (.inl hS.symm)) (fun hS => own_foot hd5 ho5 (by decide) (by decide) _ hob (.inr (.inl hS.symm))) (fun hS => own_foot hd5 ho5 (by decide) (by decide) _ hob (.inr (.inr hS.symm))) (fun g cs T hg _ _ hS => by have := HCR.out.size; have hS' : g = gx := hS; omega)).at_
      have HC6 : Hid (Chg No w w6) := HC5.out.then hcg (fun i hi hT => by have h1 : i = gx := hT; have h2 := HGX.out; omega)
      have hrx6 : Rd w6 tU8 (some ⟨gx, 0, none⟩) 384 (bys (px.set 4 1)) := by
        rw [hw6]
        have e : bys (px.set 4 1) = (bys px).set 4 (.int .u8 1) := by unfold bys; rw [List.map_set]; rfl
        rw [e]; exact hrx
      have HWR := Lib.hid (write_calls hd6 1 (some ⟨gx, 0, none⟩) 384 c5 (px.set 4 1) hrx6 (by omega))
      have HW6 := Lib.hid hw6
      clear ho5 hd5 hc5 hnc5 hgx hrx hob hcg hd6 hrx6 HRE
      go_wp2_with fail
      rw [← HW6.out]
      refine HWR.out.mono ?_
      rintro e w7 ⟨rfl, hd7, hc7⟩
      have HC7 : Hid (Chg No w w7) := HC6.out.then hc7 (fun i hi hT => by have := HF1.out i hT; omega)
      have hld := load_calls hd7 0 2 (by decide) (by decide)
      have hy5 := HY5.out
      rw [hy5, ← HS.out] at hld
      have HLD := Lib.hid hld
      clear hd7 hc7 hy5 hld hfz hu0 HW6 HWR
      by_cases hs : s < 376
      · rw [if_pos hs] at HLD
        have b5 : decide ((s : Int) < 376) = true := by simp; omega
        have g5 : (s : Int) < 376 := by omega
        clear hs
        go_wp2_with fail
        refine HLD.out.mono ?_
        rintro e w8 ⟨v8, rfl, ho8, hd8, hc8⟩
        have HC8 : Hid (Chg No w w8) := HC7.out.then hc8 (fun i hi hT => by have := HF1.out i hT; omega)
        have ho8' : w8.ownsRow w7.heap.size tItem 5 v8 0 [] := ho8
        obtain ⟨A8, c8, rfl, _⟩ := own_slice ho8'
        clear ho8 hd8 hc8 ho8'
        go_wp2
        go_ret
        exact ⟨rfl, HC8.out⟩
      · rw [if_neg hs] at HLD
        have b5 : decide ((s : Int) < 376) = false := by simp; omega
        have g5 : ¬ (s : Int) < 376 := by omega
        obtain ⟨L, hL⟩ : ∃ L, L = l.take m ++ l2.take m2 := ⟨_, rfl⟩
        have hLl : L.length = m + m2 := by rw [hL, List.length_append, List.length_take, List.length_take]; have := HLN.out; have := HLN2.out; omega
        rw [← hL] at HLD
        obtain ⟨A9, hs9, hd9⟩ := sub_slice_h (P := Try.prog) Try.underlying33 ti_item A n c m (by omega)
        obtain ⟨A8, hs8, hd8'⟩ := sub_slice_h (P := Try.prog) Try.underlying33 ti_item A2 n2 c2 m2 (by omega)
        have hs9' : ∀ W : World, (Instr.sliceAt 33 (.slice A n c) none (some (.int .i64 m)) none).run Try.prog W = _ := fun W => (run_sliceAt_slice W _ _ _ _ _ Try.underlying33).trans (hs9 W)
        have hs8' : ∀ W : World, (Instr.sliceAt 33 (.slice A2 n2 c2) none (some (.int .i64 m2)) none).run Try.prog W = _ := fun W => (run_sliceAt_slice W _ _ _ _ _ Try.underlying33).trans (hs8 W)
        have HR9 : ∀ W, Hid (Chg No w W → Rd W t A9 (m * 5) (its (l.take m))) := fun W => fun hc => by rw [its_take]; exact hd9 W t (its l) (HR.out.chg hc (fun _ _ _ _ h => h)) hml
        have HR8 : ∀ W, Hid (Chg No w W → Rd W t2 A8 (m2 * 5) (its (l2.take m2))) := fun W => fun hc => by rw [its_take]; exact hd8' W t2 (its l2) (HR2.out.chg hc (fun _ _ _ _ h => h)) hml2
        have HL := Lib.hid hL
        have HLL := Lib.hid hLl
        clear hs hL hLl hd9 hd8'
        go_wp2_with fail
        refine HLD.out.mono ?_
        rintro e w8 ⟨v8, rfl, ho8, hd8, hc8⟩
        have HC8 : Hid (Chg No w w8) := HC7.out.then hc8 (fun i hi hT => by have := HF1.out i hT; omega)
        obtain ⟨Al, cl, rfl, _, hrl⟩ := own_slice ho8
        simp only [HLL.out] at hrl ⊢
        have HRL : ∀ W, Hid (Chg No w8 W → Rd W tItem Al ((m + m2) * 5) (its L)) := fun W => fun hc => hrl.chg hc (fun _ _ _ _ h => h)
        clear ho8 hd8 hc8 hrl HLD
        go_wp2_with fail
        have hz0 : w.heap.size ≤ w8.heap.size := HC8.out.size
        go_region_held3 (fun w' => Chg No w8 w') (first | assumption | ((repeat (first | (with_reducible exact Chg.refl _ _) | (with_reducible assumption) | (with_reducible refine Chg.drewN ?_ _) | (with_reducible refine Chg.drew ?_) | (with_reducible refine Chg.alloc ?_ _) | (with_reducible refine Chg.setCell ?_ (by first | (left; simp [DevH.foot]; done) | (right; simp; done) | (right; simp; omega)) _))); done))
          ((first
            | (go_at_call 21
               have HIT := items15_calls tItem tItem Al Ab cl cb L L wb (by rw [HLL.out]; exact (HRL _).out hcb) (by rw [HLL.out, HL.out, its_append]; exact HRB.out) (by rw [HLL.out]; omega) (by rw [HLL.out]; omega)
               rw [HLL.out, decide_eq_true rfl] at HIT
               refine HIT.mono ?_
               rintro e wc ⟨rfl, hcc⟩
               have hcd : Chg No w8 wc := hcb.trans hcc
               clear hcc)
            | (refine step_appW _ (by rfl) (.tmp 133) (.tmp 136) tItems (by rfl) tItem Try.underlying33 ti_item rfl (by omega) w8.heap.size _ 0 [] (by rfl) (own_empty _ tItem 5) t A9 m c _ (by rfl) ((HR9 _).out (HC8.out.trans (by (repeat (first | (with_reducible exact Chg.refl _ _) | (with_reducible assumption) | (with_reducible refine Chg.drewN ?_ _) | (with_reducible refine Chg.drew ?_) | (with_reducible refine Chg.alloc ?_ _) | (with_reducible refine Chg.setCell ?_ (by first | (left; simp [DevH.foot]; done) | (right; simp; done) | (right; simp; omega)) _)))))) its_one_cell (by simp only [maxLen]; omega) (by omega) (by simp) ?_
               intro va wa hoa hga hba
               have HOA := Lib.hid hoa
               have hca : Chg No w8 wa := Chg.grown (by (repeat (first | (with_reducible exact Chg.refl _ _) | (with_reducible assumption) | (with_reducible refine Chg.drewN ?_ _) | (with_reducible refine Chg.drew ?_) | (with_reducible refine Chg.alloc ?_ _) | (with_reducible refine Chg.setCell ?_ (by first | (left; simp [DevH.foot]; done) | (right; simp; done) | (right; simp; omega)) _)))) hga (fun k' hk' => .inr (own_new (own_empty _ tItem 5) k' hk'))
               clear hoa hga hba)
            | (refine step_appW _ (by rfl) (.tmp 137) (.tmp 140) tItems (by rfl) tItem Try.underlying33 ti_item rfl (by omega) w8.heap.size _ (0 + m) _ (by rfl) HOA.out t2 A8 m2 c2 _ (by rfl) ((HR8 _).out (HC8.out.trans (by (repeat (first | (with_reducible exact Chg.refl _ _) | (with_reducible assumption) | (with_reducible refine Chg.drewN ?_ _) | (with_reducible refine Chg.drew ?_) | (with_reducible refine Chg.alloc ?_ _) | (with_reducible refine Chg.setCell ?_ (by first | (left; simp [DevH.foot]; done) | (right; simp; done) | (right; simp; omega)) _)))))) its_one_cell (by simp only [maxLen]; omega) (by omega) (by have := hca.size; omega) ?_
               intro vb wb hob hgb hbb
               have hcb : Chg No w8 wb := Chg.grown (by (repeat (first | (with_reducible exact Chg.refl _ _) | (with_reducible assumption) | (with_reducible refine Chg.drewN ?_ _) | (with_reducible refine Chg.drew ?_) | (with_reducible refine Chg.alloc ?_ _) | (with_reducible refine Chg.setCell ?_ (by first | (left; simp [DevH.foot]; done) | (right; simp; done) | (right; simp; omega)) _)))) hgb (fun k' hk' => .inr (own_new HOA.out k' hk'))
               have hob' : wb.ownsRow w8.heap.size tItem 5 vb (m + m2) (its (l.take m) ++ its (l2.take m2)) := by simpa using hob
               obtain ⟨Ab, cb, rfl, _, hrb⟩ := own_slice hob'
               have HRB := Lib.hid hrb
               clear hob hgb hbb hrb hob')))
        go_wp2
        go_ret
        exact ⟨rfl, HC8.out.trans (by (repeat (first | (with_reducible exact Chg.refl _ _) | (with_reducible assumption) | (with_reducible refine Chg.drewN ?_ _) | (with_reducible refine Chg.drew ?_) | (with_reducible refine Chg.alloc ?_ _) | (with_reducible refine Chg.setCell ?_ (by first | (left; simp [DevH.foot]; done) | (right; simp; done) | (right; simp; omega)) _))))⟩
end Go.Proofs.Ytinofdfjaopdcaa
