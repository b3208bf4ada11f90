/- Packed texts: RegK, RegL. -/
import Derived.Test.YtplpbbdakihnfaaGreatPq09
import Derived.Deep.RegionLaw
set_option linter.unusedSimpArgs false
set_option linter.unusedVariables false
section
namespace Go.Proofs.YtplpbbdakihnfaaGreat
open Go.RowKit
open Go.ChangeMaps (setBlock)
attribute [local go_sem ↓] Go.wp_at_zero Go.wp_at_succ
structure LgPost (w : World) (h : DevH) (t : LgH) (R : LgR) (v : Value) (t' : LgH) (w' : World) : Prop where
  lost : w'.ownsRow w.heap.size tItem 5 v R.lost.length (its R.lost)
  dev : DevAt w' h R.D
  log : LgAt w' h t' R.G
  chg : Chg (fun k => h.foot k ∨ t.spot k) w w'
  L : t'.L = t.L
  own : ∀ k, t'.own k → t.own k ∨ w.heap.size ≤ k
  spot : ∀ k, t'.spot k → t.spot k ∨ w.heap.size ≤ k
  lostNo : ∀ k, v.ownBlock = some k → ¬ t'.own k
theorem giveK_len (i : Nat) (ks : Keys) (l : List Item) : (giveK i ks l).1.length ≤ l.length := by
  rw [← giveT_all]; exact giveT_len i ks l _ (Nat.le_refl _)
structure SealMid (w : World) (h : DevH) (t : LgH) (G : Lg) (D2 : Dev) (v : Value) (i : Nat) (ks : Keys) (W : World) : Prop where
  raw : LgRaw W h { t with O := .slice none 0 0 } { G with number := G.number + 1, regs := (G.regs.set i .no).set i ⟨G.number + 1, G.opn⟩, opn := [], keys := ks }
  box : Blk W t.L tLog (boxOf h t { G with number := G.number + 1 })
  rd : ∀ A c, t.O = .slice A G.opn.length c → Rd W tItem A (G.opn.length * 5) (its G.opn)
  dev : DevAt W h D2
  lost : W.ownsRow w.heap.size tItem 5 v G.given.1.length (its G.given.1)
  chg : Chg (fun k => h.foot k ∨ t.spot k) w W
theorem SealMid.chgNo {w W W' : World} {h : DevH} {t : LgH} {G : Lg} {D2 : Dev} {v : Value} {i : Nat} {ks : Keys} (hm : SealMid w h t G D2 v i ks W) (hc : Chg No W W') : SealMid w h t G D2 v i ks W' :=
  ⟨hm.raw.chgNo hc, hm.box.chg hc (fun h => h), fun A c e => (hm.rd A c e).chg hc (fun _ _ _ _ h => h), (DevN.chgNo hm.dev hc).at_, own_chg hm.lost hc (fun _ _ h => h), hm.chg.then hc (fun _ _ h => h.elim)⟩
theorem own_no_map {w W : World} {M base e size n : Nat} {v : Value} {xs : List Value} {es : List (ByteArray × Value)} (hm : MapIs skey w M es) (ho : w.ownsRow base e size v n xs) : ∀ k, v.ownBlock = some k → ¬ k = M := by
  intro k hk e'
  rcases ho.2 with ⟨e1, _⟩ | ⟨g', cap, cur, e1, _, hg', _⟩
  · rw [e1] at hk; simp [Value.ownBlock] at hk
  · rw [e1] at hk
    have : g' = k := by simpa [Value.ownBlock] using hk
    subst this
    exact hm.ne_blk hg' e'.symm
theorem dev_map {N : Nat} {W W' : World} {h : DevH} {D : Dev} {M : Nat} {es : List (ByteArray × Value)} (hd : DevN N W h D) (hm : MapIs skey W M es) (hf : M ≠ h.M) (hc : Chg (fun k => k = M) W W') : DevN N W' h D := by
  refine hd.chg hc (fun e => ?_) (fun e => ?_) (fun e => hf e.symm) (fun g cs T _ _ hb e => hm.ne_blk hb e.symm)
  · obtain ⟨a, b, c, e', hb⟩ := hd.box
    exact hm.ne_blk hb e.symm
  · obtain ⟨ps, hb, _⟩ := hd.row
    exact hm.ne_blk hb e.symm
theorem SealMid.mapped {w W W' : World} {h : DevH} {t : LgH} {G : Lg} {D2 : Dev} {v : Value} {i : Nat} {ks ks' : Keys} (hm : SealMid w h t G D2 v i ks W) (hc : Chg (fun k => k = t.M) W W') (hmap : MapIs skey W' t.M (amap plv ks')) : SealMid w h t G D2 v i ks' W' :=
  ⟨hm.raw.mapped hc hmap, hm.box.chg hc (fun e => hm.raw.map.ne_blk hm.box e.symm), fun A c e => (hm.rd A c e).chg hc (fun g cur fz hg e' => hm.raw.map.ne_blk hg e'.symm), (dev_map hm.dev hm.raw.map hm.raw.far hc).at_, own_chg hm.lost hc (own_no_map (W := W') hm.raw.map hm.lost), hm.chg.then hc (fun k _ e => .inr (.inr (.inl e)))⟩
theorem LgAt.renum {w : World} {h : DevH} {t : LgH} {G : Lg} (hl : LgAt w h t G) (num : Nat) (hn : num < 18446744073709551616) : LgAt (w.setCell ⟨t.L, 6, none⟩ (.int .u64 num)) h t { G with number := num } ∧ Chg (fun k => k = t.L) w (w.setCell ⟨t.L, 6, none⟩ (.int .u64 num)) := by
  have hc : Chg (fun k => k = t.L) w (w.setCell ⟨t.L, 6, none⟩ (.int .u64 num)) := Chg.setCell (S := fun k => k = t.L) (Chg.refl _ _) (.inl rfl) _
  have hb := hl.box.set_ 6 (.int .u64 num)
  have hr := hl.raw.boxed hc ⟨_, hb⟩
  refine ⟨LgRaw.at_ (G := { G with number := num }) ⟨hr.struc, hr.regs, hr.opn, hr.map, hr.ownL, hr.ownM, hr.ownR, hr.ownO, hr.lt, hr.far⟩ (by simpa [boxOf] using hb) ?_, hc⟩
  exact { hl.ok with num := hn }
section
variable {N : Nat} {w : World} {h : DevH} {t : LgH} {G : Lg} {D : Dev}
set_option maxRecDepth 100000 in
set_option maxHeartbeats 8000000 in
theorem seal_calls (hd : DevN N w h D) (hl : LgAt w h t G) :
    Calls Tryz.prog 60 #[.pointer (some ⟨t.L, 0, none⟩)] w fun e w' => ∃ v t', e = .returned (.tuple #[v, .int .i64 (G.sl D).e]) ∧ LgPost w h t (G.sl D) v t' w' := by
  have HD := Lib.hid hd
  have HL := Lib.hid hl
  have hlen := hl.ok.len
  have c4 := hl.box.cell 4
  have c6 := hl.box.cell 6
  have c3 := hl.box.cell 3
  simp at c3 c4 c6
  obtain ⟨Ao, co, hO, hnco, hrdo⟩ := hl.openAs
  have HO := Lib.hid hO
  rw [hO] at c4
  have hstay : ∀ W, Chg No w W → LgPost w h t ⟨G, D, [], 0⟩ (.slice none 0 0) t W := fun W hc => ⟨World.ownsRow_nil _ _ _ _, (HD.out.chgNo hc).at_, HL.out.chgNo hc, hc.mono (fun _ _ h => h.elim), rfl, fun k hk => .inl hk, fun k hk => .inl hk, fun k hk => by simp [Value.ownBlock] at hk⟩
  have HSTAY := Lib.hid hstay
  clear hstay
  by_cases h0 : G.opn = []
  · have hs : G.sl D = ⟨G, D, [], 0⟩ := by unfold Lg.sl; rw [if_pos h0]
    rw [hs]
    have hz : G.opn.length = 0 := by rw [h0]; rfl
    rw [hz] at c4
    clear hd hl hlen hO hnco hrdo h0 hs hz c3 c6
    go_enter Tryz.func60, Tryz.ntmps60
    go_wp2
    go_ret2
    exact ⟨_, t, rfl, HSTAY.out _ (Chg.refl _ _)⟩
  have hpos : 0 < G.opn.length := List.length_pos_iff.2 h0
  have HDONE := Lib.hid (done_calls hd hl)
  obtain ⟨no, hno⟩ : ∃ no, no = G.opn.length := ⟨_, rfl⟩
  rw [← hno] at c4 hlen hpos
  have hb0 : ((no : Int) == 0) = false := by simp; omega
  have hb0' : ¬ (no : Int) = 0 := by omega
  have HNO := Lib.hid hno
  by_cases h1 : G.losses ≠ D.losses
  · have hs : Hid ((G.sl D).e = 4 ∧ ∀ W, Chg No w W → LgPost w h t (G.sl D) (.slice none 0 0) t W) := by
      have e : G.sl D = ⟨G, D, [], 4⟩ := by unfold Lg.sl; rw [if_neg h0, if_pos h1]
      rw [e]
      exact ⟨rfl, fun W hc => ⟨(HSTAY.out W hc).lost, (HSTAY.out W hc).dev, (HSTAY.out W hc).log, (HSTAY.out W hc).chg, rfl, (HSTAY.out W hc).own, (HSTAY.out W hc).spot, (HSTAY.out W hc).lostNo⟩⟩
    rw [decide_eq_true h1] at HDONE
    clear hd hl hO hnco hrdo h0 h1 c3 c6 hno
    go_enter Tryz.func60, Tryz.ntmps60
    go_wp2_with fail
    refine HDONE.out.mono ?_
    rintro e w1 ⟨rfl, nq, rfl⟩
    go_wp2
    go_ret2
    exact ⟨_, t, by rw [hs.out.1]; rfl, hs.out.2 _ (by (repeat (first | (with_reducible exact Chg.refl _ _) | (with_reducible assumption) | (with_reducible refine Chg.drewN ?_ _) | (with_reducible refine Chg.drew ?_) | (with_reducible refine Chg.alloc ?_ _) | (with_reducible refine Chg.setCell ?_ (by first | (left; simp [DevH.foot]; done) | (right; simp; done) | (right; simp; omega)) _))))⟩
  rw [decide_eq_false h1] at HDONE
  by_cases h2 : G.number = 18446744073709551615
  · have hs : Hid ((G.sl D).e = 9 ∧ ∀ W, Chg No w W → LgPost w h t (G.sl D) (.slice none 0 0) t W) := by
      have e : G.sl D = ⟨G, D, [], 9⟩ := by unfold Lg.sl; rw [if_neg h0, if_neg h1, if_pos h2]
      rw [e]
      exact ⟨rfl, fun W hc => ⟨(HSTAY.out W hc).lost, (HSTAY.out W hc).dev, (HSTAY.out W hc).log, (HSTAY.out W hc).chg, rfl, (HSTAY.out W hc).own, (HSTAY.out W hc).spot, (HSTAY.out W hc).lostNo⟩⟩
    have c6' : w.cell? ⟨t.L, 6, none⟩ = some (.int .u64 18446744073709551615) := by rw [c6, h2]; rfl
    clear hd hl hO hnco hrdo h0 h1 h2 c3 c6 hno
    go_enter Tryz.func60, Tryz.ntmps60
    go_wp2_with fail
    refine HDONE.out.mono ?_
    rintro e w1 ⟨rfl, nq, rfl⟩
    go_wp2
    go_ret2
    exact ⟨_, t, by rw [hs.out.1]; rfl, hs.out.2 _ (by (repeat (first | (with_reducible exact Chg.refl _ _) | (with_reducible assumption) | (with_reducible refine Chg.drewN ?_ _) | (with_reducible refine Chg.drew ?_) | (with_reducible refine Chg.alloc ?_ _) | (with_reducible refine Chg.setCell ?_ (by first | (left; simp [DevH.foot]; done) | (right; simp; done) | (right; simp; omega)) _))))⟩
  have hnum : G.number + 1 < 18446744073709551616 := by have := hl.ok.num; omega
  have hni : G.next < G.regs.length := Nat.mod_lt _ hl.ok.pos
  have hnx : Hid (G.next = (G.number + 1) % G.regs.length) := rfl
  have hmost := hl.ok.most
  have HGIVE := fun W => Lib.hid (fun hc : Chg No w W => give_calls (hl.chgNo hc) G.next hni)
  have hgl := giveK_len G.next G.keys (rl G.regs G.next)
  have hSL : Hid (G.sl D = if (G.wrote D).2 = 0 then ⟨G.shut, (G.wrote D).1, G.given.1, 0⟩ else ⟨G.gave, (G.wrote D).1, G.given.1, (G.wrote D).2⟩) := by show _ = _; unfold Lg.sl; rw [if_neg h0, if_neg h1, if_neg h2]
  obtain ⟨r, ro, rc, hR, hrg, _⟩ := hl.row
  obtain ⟨rfl, _, _, _⟩ := hl.rowAt hR
  have HRR := Lib.hid hR
  rw [hR] at c3
  obtain ⟨num, hnumE⟩ : ∃ num, num = G.number := ⟨_, rfl⟩
  obtain ⟨m, hm⟩ : ∃ m, m = G.regs.length := ⟨_, rfl⟩
  obtain ⟨i, hiE⟩ : ∃ i, i = G.next := ⟨_, rfl⟩
  rw [← hnumE] at c6 hnum hnx h2
  rw [← hm] at c3 hni hnx hmost
  rw [← hiE] at hni hnx HGIVE
  have HNUM := Lib.hid hnumE
  have HIE := Lib.hid hiE
  have HME := Lib.hid hm
  have hw1 : IntKind.u64.wrap ((num : Int) + 1) = (num : Int) + 1 := wraps_u64 _ (by omega) (by omega)
  have hwm : IntKind.u64.wrap (m : Int) = (m : Int) := wraps_u64 _ (by omega) (by omega)
  have hwi : IntKind.i64.wrap (i : Int) = (i : Int) := IntWalk.i64_in _ (by omega)
  have hrem : ((num : Int) + 1).tmod (m : Int) = (i : Int) := by
    rw [Int.tmod_eq_emod_of_nonneg (by omega), hnx.out]; simp
  have hrem2 : ((num : Int) + 1) % (m : Int) = (i : Int) := by
    rw [hnx.out]; simp
  have hb2 : ((num : Int) == 18446744073709551615) = false := by simp; omega
  have hb2' : ¬ (num : Int) = 18446744073709551615 := by omega
  have hm0 : ((m : Int) == 0) = false := by simp; omega
  have hm0' : ¬ (m : Int) = 0 := by omega
  have HH2 := Lib.hid h2
  clear hd hl hO hnco hrdo h0 h1 h2 hno hR hnumE hm hiE
  go_enter Tryz.func60, Tryz.ntmps60
  go_wp2_with fail
  refine HDONE.out.mono ?_
  rintro e w1 ⟨rfl, nq, rfl⟩
  go_wp2_with fail
  refine ((HGIVE _).out (by (repeat (first | (with_reducible exact Chg.refl _ _) | (with_reducible assumption) | (with_reducible refine Chg.drewN ?_ _) | (with_reducible refine Chg.drew ?_) | (with_reducible refine Chg.alloc ?_ _) | (with_reducible refine Chg.setCell ?_ (by first | (left; simp [DevH.foot]; done) | (right; simp; done) | (right; simp; omega)) _))))).mono ?_
  rintro e w1 ⟨v, rfl, ho1, hl1, hc1⟩
  have HG1 : Hid (LgAt w1 h t G.gave) := by show LgAt _ _ _ _; unfold Lg.gave Lg.given; rw [← HIE.out]; exact hl1
  have HO1 : Hid (w1.ownsRow w.heap.size tItem 5 v G.given.1.length (its G.given.1)) := by show World.ownsRow _ _ _ _ _ _ _; unfold Lg.given; rw [← HIE.out]; exact ho1
  have HC1 : Hid (Chg t.spot w w1) := ((Chg.refl _ _).drewN _).trans hc1
  have HD1 : Hid (DevN N w1 h D) := (HL.out.chgNo ((Chg.refl No w).drewN nq)).dev (HD.out.chgNo ((Chg.refl No w).drewN nq)) hc1 (fun k _ hk => hk)
  have hgave : Hid (G.gave.regs.length = m ∧ G.gave.opn = G.opn ∧ G.gave.first = G.first) := ⟨by rw [HME.out]; simp [Lg.gave], rfl, rfl⟩
  have HWR := Lib.hid (rwrite_calls HD1.out HG1.out i (num + 1) (by rw [hgave.out.1]; exact hni) hnum)
  have HWE : Hid (wr D ((G.gave.first + 4 * i : Nat) : Int) (num + 1) (records G.gave.opn) = G.wrote D) := by show _ = _; unfold Lg.wrote; rw [HIE.out, HNUM.out]; rfl
  rw [HWE.out] at HWR
  obtain ⟨D2, hD2⟩ : ∃ D2, D2 = (G.wrote D).1 := ⟨_, rfl⟩
  obtain ⟨er, her⟩ : ∃ er, er = (G.wrote D).2 := ⟨_, rfl⟩
  rw [← hD2, ← her] at HWR
  rw [← hD2, ← her] at hSL
  clear ho1 hl1 hc1 HGIVE HDONE hD2 her HWE
  go_wp2_with fail
  refine HWR.out.mono ?_
  rintro e w2 ⟨rfl, hd2, hc2⟩
  have HD2 := Lib.hid hd2
  have HG2 := Lib.hid (HG1.out.foot HD1.out hc2)
  have hfn : ∀ k, v.ownBlock = some k → ¬ h.foot k := own_foot HD1.out HO1.out (by decide) (by decide)
  have HO2 := Lib.hid (own_chg HO1.out hc2 hfn)
  have HC2 : Hid (Chg (fun k => h.foot k ∨ t.spot k) w w2) := (HC1.out.mono (fun k _ hk => .inr hk)).then hc2 (fun k _ hk => .inl hk)
  have HVN : Hid (∀ k, v.ownBlock = some k → ¬ t.own k) := fun k hk ho => by have h1 := own_new HO1.out k hk; have h2 := HL.out.lt k ho; omega
  clear hd2 hc2 HWR hfn
  by_cases he : er = 0
  rotate_left
  · have hb : ((er : Int) != 0) = true := by simpa using he
    have HS : Hid (G.sl D = ⟨G.gave, D2, G.given.1, er⟩) := by show _ = _; rw [hSL.out, if_neg he]
    clear hSL
    go_wp2
    go_ret2
    refine ⟨v, t, by rw [HS.out]; rfl, ?_⟩
    rw [HS.out]
    exact ⟨HO2.out, HD2.out, HG2.out, HC2.out, rfl, fun k hk => .inl hk, fun k hk => .inl hk, HVN.out⟩
  subst he
  have HS : Hid (G.sl D = ⟨G.shut, D2, G.given.1, 0⟩) := by show _ = _; rw [hSL.out, if_pos rfl]
  have f6 := HG2.out.box.frozen 6
  have c6b := HG2.out.box.cell 6
  simp at c6b
  have HG3 := Lib.hid (HG2.out.renum (num + 1) hnum)
  have b3 := HG3.out.1.box.cell 3
  have b4 := HG3.out.1.box.cell 4
  simp at b3 b4
  rw [HRR.out] at b3
  rw [HO.out] at b4
  rw [← HNO.out] at b4
  rw [← HME.out] at b3
  have hLr : t.L ≠ r := fun e => HG3.out.1.rowNe HRR.out HG3.out.1.box (by decide) e
  have hrL : r ≠ t.L := fun e => hLr e.symm
  obtain ⟨S, hS⟩ : ∃ S, G.gave.regs[i]? = some S := ⟨_, List.getElem?_eq_getElem (by rw [hgave.out.1]; exact hni)⟩
  obtain ⟨vq, q0, q1, Aq, cq, rfl, _⟩ := HG3.out.1.rowCell HRR.out i S hS
  have hfz := (HG3.out.1.rowAt HRR.out).2.2.1
  have g0 := hfz (i * 2)
  have g1 := hfz (i * 2 + 1)
  have hii : (i : Int) < (m : Int) := by omega
  have hll : t.L < w2.heap.size := HG2.out.lt _ HG2.out.ownL
  have hrl : r < w2.heap.size := HG2.out.lt _ (HG2.out.ownR r (by rw [HRR.out]; rfl))
  have e1 : ((num + 1 : Nat) : Int) = (num : Int) + 1 := by omega
  simp only [e1] at b3 b4 q0 q1 g0 g1
  clear hfz hS hb2 hb2' hw1 hwm hwi hrem hrem2 hm0 hm0'
  go_wp2_with fail
  go_region
  have hraw := (HG3.out.1.sealedRaw HRR.out (i := i) (by show _ < G.gave.regs.length; rw [hgave.out.1]; exact hni) (num + 1)).1
  have hrc := (HG3.out.1.sealedRaw HRR.out (i := i) (by show _ < G.gave.regs.length; rw [hgave.out.1]; exact hni) (num + 1)).2
  rw [HO.out, ← HNO.out] at hraw hrc
  simp only [e1] at hraw hrc
  have hL3 := HG3.out.2
  have hG3 := HG3.out.1
  have hbx := hG3.box
  simp only [e1] at hL3 hG3 hbx
  have HMID : Hid (SealMid w h t G D2 v i G.given.2 (((w2.setCell ⟨t.L, 6, none⟩ (.int .u64 ((num : Int) + 1))).setCell ⟨r, i * 2, none⟩ (.int .u64 ((num : Int) + 1))).setCell ⟨r, i * 2 + 1, none⟩ (.slice Ao no co))) := by
    have hdev3 : DevAt (w2.setCell ⟨t.L, 6, none⟩ (.int .u64 ((num : Int) + 1))) h D2 := (HG2.out.dev HD2.out hL3 (fun k _ e => .inl e)).at_
    refine ⟨?_, ?_, ?_, ?_, ?_, ?_⟩
    · have : LgRaw _ h { t with O := .slice none 0 0 } { G.gave with number := num + 1, regs := G.gave.regs.set i ⟨num + 1, G.opn⟩, opn := [] } := hraw
      unfold Lg.gave at this
      rw [← HIE.out] at this
      rw [← HNUM.out]
      exact this
    · rw [← HNUM.out]
      have := hbx.chg hrc (fun e => hLr e)
      simpa [boxOf, Lg.gave] using this
    · intro A c e
      rw [HO.out] at e
      injection e with e1 e2 e3
      subst e1
      have := (hG3.openAs)
      obtain ⟨A', c', hA', _, hr'⟩ := this
      rw [HO.out] at hA'
      injection hA' with e1 e2 e3
      subst e1
      exact hr'.chg hrc (fun g cur fz hg => hG3.rowNe HRR.out hg (by decide))
    · exact (hG3.dev hdev3 hrc (fun k _ e => .inr (.inr (.inl (by rw [HRR.out, e]; rfl))))).at_
    · exact own_chg (own_chg HO2.out hL3 (fun k hk e => HVN.out k hk (by rw [e]; exact HG2.out.ownL))) hrc (fun k hk e => HVN.out k hk (HG2.out.ownR k (by rw [HRR.out, e]; rfl)))
    · exact (HC2.out.then hL3 (fun k _ e => .inr (.inl e))).then hrc (fun k _ e => .inr (.inr (.inr (.inl (by rw [HRR.out, e]; rfl)))))
  have z4 : w2.cell? ⟨t.L, 4, none⟩ = some (.slice Ao no co) := by
    have := HG2.out.box.cell 4
    simp at this
    rw [HO.out, ← HNO.out] at this
    exact this
  have HRD0 : Hid (∀ W, SealMid w h t G D2 v i G.given.2 W → Rd W tItem Ao (G.opn.length * 5) (its G.opn)) := fun W hW => hW.rd Ao co HO.out
  have hmv := moveT_all i G.given.2 G.opn
  rw [← HNO.out] at hmv
  have HMV := Lib.hid hmv
  have hlo : Hid (∀ k, k < no → ∃ x, G.opn[k]? = some x) := fun k hk => ⟨_, List.getElem?_eq_getElem (by rw [← HNO.out]; exact hk)⟩
  clear hraw hrc hL3 hG3 hbx b3 b4 q0 q1 g0 g1 f6 c6b e1 hmv
  go_wp2
  go_loopg [72] no (fun gk vi wr => ∃ k : Nat, gk = no - k ∧ k ≤ no ∧ vi = .int .i64 k ∧ Hid (SealMid w h t G D2 v i (moveT i G.given.2 G.opn k) wr))
  case atStart => exact ⟨0, rfl, Nat.zero_le _, rfl, HMID.out.chgNo ((Chg.refl _ _).drew)⟩
  case round =>
    obtain ⟨k, rfl, hk, rfl, H⟩ := hrel
    by_cases hlt : k < no
    · obtain ⟨x, hx⟩ := hlo.out k hlt
      have hsucc := moveT_succ i G.given.2 hx
      obtain ⟨ks, hks⟩ : ∃ ks, moveT i G.given.2 G.opn k = ks := ⟨_, rfl⟩
      rw [hks] at H hsucc
      have hrd1 := H.out.rd Ao co HO.out
      obtain ⟨g, off, c', he', hg, c0, c1, c2, c3, c4⟩ := SlAt.item (w := wr) (t := ⟨0, 0, .slice none 0 0, .slice none 0 0, fun _ => True⟩) (v := .slice Ao G.opn.length co) ⟨Ao, co, rfl, by obtain ⟨A', c'', hA', hn', _⟩ := HL.out.openAs; rw [HO.out] at hA'; injection hA' with _ _ e3; rw [e3]; exact hn', hrd1, fun _ _ _ _ => ⟨trivial, by simp [Value.ownBlock]⟩⟩ hx
      obtain ⟨ea, _, _⟩ : Ao = some ⟨g, off, none⟩ ∧ True ∧ True := by injection he' with e1 e2 e3; exact ⟨e1, trivial, trivial⟩
      subst ea
      have hki : (k : Int) < (no : Int) := by omega
      have HSUC := Lib.hid hsucc
      have HX := Lib.hid hx
      clear hsucc hks hrd1 hx he'
      go_wp2_with fail
      refine wp_forget (fun W => Chg No wr W ∧ Blk W wr.heap.size tItem (itc x).toArray) ⟨by (repeat (first | (with_reducible exact Chg.refl _ _) | (with_reducible assumption) | (with_reducible refine Chg.drewN ?_ _) | (with_reducible refine Chg.drew ?_) | (with_reducible refine Chg.alloc ?_ _) | (with_reducible refine Chg.setCell ?_ (by first | (left; simp [DevH.foot]; done) | (right; simp; done) | (right; simp; omega)) _))), Blk.new _ _ _⟩ (fun W hW => ?_)
      obtain ⟨hcW, hbW⟩ := hW
      obtain ⟨ga, hga⟩ : ∃ ga, wr.heap.size = ga := ⟨_, rfl⟩
      rw [hga] at hbW ⊢
      have HMW := Lib.hid (H.out.chgNo hcW)
      have hk := fun n => look_map (HMW.out.raw.map.chg ((Chg.refl No W).drewN n) (fun h => h)) x.key
      have d7 := HMW.out.box.cell 7
      simp [boxOf] at d7
      have a0 := hbW.cell 0
      simp [itc] at a0
      simp only [plv] at hk
      have hdec : (aget ks x.key = some ⟨true, 0, k⟩) = ((aget ks x.key).getD .zero = ⟨true, 0, k⟩) := by
        cases aget ks x.key with
        | none => simp [Pl.zero]
        | some p => simp
      obtain ⟨q, hq⟩ : ∃ q, q = (aget ks x.key).getD .zero := ⟨_, rfl⟩
      rw [← hq] at hk hdec
      have he : ∀ W, (binOp .eql tPlace (.agg #[.bool q.op, .int .i64 q.rg, .int .i64 q.ix]) (.agg #[.bool true, .int .i64 0, .int .i64 k])).run Tryz.prog W = .ok (.bool (decide (q = ⟨true, 0, k⟩))) W := fun W => run_eql_pl' q true 0 k W
      have HDEC := Lib.hid hdec
      have HBW := Lib.hid hbW
      clear hdec hcW hbW hga hq c0 c1 c2 c3 c4
      by_cases hpl : q = ⟨true, 0, k⟩
      · have he1 : ∀ W, (binOp .eql tPlace (.agg #[.bool q.op, .int .i64 q.rg, .int .i64 q.ix]) (.agg #[.bool true, .int .i64 0, .int .i64 k])).run Tryz.prog W = .ok (.bool true) W := fun W => by rw [he W, decide_eq_true hpl]
        have HYES : Hid (moveT i G.given.2 G.opn (k + 1) = aset ks x.key ⟨false, i, k⟩) := by
          show _ = _
          rw [HSUC.out, moveS, if_pos]
          simp only
          rw [HDEC.out]; exact hpl
        clear he hpl
        go_wp2_with fail
        go_quiet (fail)
        go_wp2_with fail
        refine wp_forget (fun V => Chg No W V) ((Chg.refl No W).drewN _) (fun V hV => ?_)
        have hmv2 := HMW.out.chgNo (hV.drew)
        have d7' := hmv2.box.cell 7
        simp [boxOf] at d7'
        have a0' := (HBW.out.chg hV (fun h => h)).cell 0
        simp [itc] at a0'
        obtain ⟨o, hrun, hmap⟩ := hmv2.raw.map.update (P := Tryz.prog) (keyLaw_string (Tryz.underlying9)) Tryz.underlying128 x.key (plv ⟨false, i, k⟩)
        rw [aset_amap] at hmap
        simp only [plv] at hrun
        have HNX := Lib.hid (hmv2.mapped (chg_setBlock _ _ _) hmap)
        clear hk d7 a0 hmv2 hmap hV
        go_region
        all_goals
          go_wp2
          go_roundg (no - (k + 1))
          case measure => omega
          case rel =>
            refine ⟨k + 1, rfl, by omega, by go_num, ?_⟩
            rw [HYES.out]
            exact HNX.out
      · have he1 : ∀ W, (binOp .eql tPlace (.agg #[.bool q.op, .int .i64 q.rg, .int .i64 q.ix]) (.agg #[.bool true, .int .i64 0, .int .i64 k])).run Tryz.prog W = .ok (.bool false) W := fun W => by rw [he W, decide_eq_false hpl]
        have HNO2 : Hid (moveT i G.given.2 G.opn (k + 1) = ks) := by
          show _ = _
          rw [HSUC.out, moveS, if_neg]
          simp only
          rw [HDEC.out]; exact hpl
        clear he hpl
        go_wp2_with fail
        go_quiet (fail)
        go_wp2
        go_roundg (no - (k + 1))
        case measure => omega
        case rel =>
          refine ⟨k + 1, rfl, by omega, by go_num, ?_⟩
          rw [HNO2.out]
          exact HMW.out.chgNo ((Chg.refl _ _).drewN _)
    · obtain rfl : k = no := by omega
      rw [HMV.out] at H
      have HM := Lib.hid H.out
      have b4 := H.out.box.cell 4
      have b5 := H.out.box.cell 5
      have f4 := H.out.box.frozen 4
      have f5 := H.out.box.frozen 5
      simp [boxOf] at b4 b5
      rw [HO.out, ← HNO.out] at b4
      clear hlt H
      go_wp2
      go_ret2
      have hc : Chg (fun j => j = t.L) wr ((wr.setCell ⟨t.L, 4, none⟩ (.slice none 0 0)).setCell ⟨t.L, 5, none⟩ (.int .i64 0)) := Chg.setCell (S := fun j => j = t.L) (Chg.setCell (S := fun j => j = t.L) (Chg.refl _ _) (.inl rfl) _) (.inl rfl) _
      have hb := (HM.out.box.set_ 4 (.slice none 0 0)).set_ 5 (.int .i64 0)
      refine ⟨v, { t with O := .slice none 0 0 }, by rw [HS.out]; rfl, ?_⟩
      rw [HS.out]
      have hdev : DevAt _ h D2 := HM.out.dev
      refine ⟨own_chg HM.out.lost hc (fun j hj e => HVN.out j hj (by rw [e]; exact HL.out.ownL)), ?_, ?_, HM.out.chg.then hc (fun j _ e => .inr (.inl e)), rfl, fun j hj => .inl hj, ?_, HVN.out⟩
      · refine (hdev.chg hc (fun e => ?_) (fun e => ?_) (fun e => ?_) (fun g cs T _ hT hb2 e => ?_)).at_
        · exact hdev.not_foot HM.out.box (by decide) (by decide) (.inl e.symm)
        · exact hdev.not_foot HM.out.box (by decide) (by decide) (.inr (.inl e.symm))
        · exact hdev.not_foot HM.out.box (by decide) (by decide) (.inr (.inr e.symm))
        · subst e
          have hb3 := HM.out.box
          unfold Blk at hb3 hb2
          rw [hb3] at hb2
          injection hb2 with hb2
          injection hb2 with _ e2
          rcases hT with rfl | rfl <;> exact absurd e2 (by decide)
      rotate_left
      · rintro k (hk | hk | hk | hk)
        · exact .inl (.inl hk)
        · exact .inl (.inr (.inl hk))
        · exact .inl (.inr (.inr (.inl hk)))
        · simp [Value.ownBlock] at hk
      · have hraw := HM.out.raw.boxed hc ⟨_, hb⟩
        have hok := HL.out.ok.shut HL.out.nodup (by rw [← HNUM.out]; exact hnum)
        refine LgRaw.at_ (G := G.shut) ?_ ?_ hok
        · have h := hraw
          rw [HIE.out] at h
          exact h
        · have : boxOf h { t with O := .slice none 0 0 } G.shut = ((boxOf h t { G with number := G.number + 1 }).setIfInBounds 4 (.slice none 0 0)).setIfInBounds 5 (.int .i64 0) := by
            simp [boxOf, Lg.shut, isum]
          rw [this]
          exact hb
end
end Go.Proofs.YtplpbbdakihnfaaGreat
end

section
namespace Go.Proofs.YtplpbbdakihnfaaGreat
open Go.RowKit
open Go.ChangeMaps (setBlock)
attribute [local go_sem ↓] Go.wp_at_zero Go.wp_at_succ
theorem isum_app (l : List Item) (x : Item) : isum (l ++ [x]) = isum l + x.size := by simp [isum]
theorem Lg.Ok.add {G : Lg} (ho : G.Ok) {x : Item} (hx : x.good = true) (hs : isum G.opn + x.size ≤ 1472) : (G.add x).Ok :=
  { ho with
    good := by
      show goods (G.opn ++ [x]) = true
      rw [goods_append, ho.good]
      simp [goods, hx]
    sum := by
      show isum (G.opn ++ [x]) ≤ 1472
      rw [isum_app]; exact hs
    keys := by
      intro key p hp
      have h : aget (aset G.keys x.key ⟨true, 0, G.opn.length⟩) key = some p := hp
      rw [aget_aset] at h
      split at h
      · rename_i hk
        injection h with h
        subst h
        unfold Lg.plOk
        simp only [if_true]
        exact ⟨trivial, x, by simp [Lg.add], hk⟩
      · have := ho.keys key p h
        unfold Lg.plOk at this ⊢
        split
        · rename_i hop
          rw [if_pos hop] at this
          obtain ⟨h1, y, h2, h3⟩ := this
          refine ⟨h1, y, ?_, h3⟩
          show (G.opn ++ [x])[p.ix]? = some y
          rw [List.getElem?_append_left (List.getElem?_eq_some_iff.1 h2).1]
          exact h2
        · rename_i hop
          rw [if_neg hop] at this
          exact this }
section
variable {w : World} {h : DevH} {t : LgH} {G : Lg}
theorem LgRaw.grow {w' : World} (hl : LgRaw w h t G) {v' : Value} {opn' : List Item} (hc : Chg (fun k => t.O.ownBlock = some k) w w') (ho : w'.ownsRow 0 tItem 5 v' opn'.length (its opn'))
    (hb : v'.ownBlock = t.O.ownBlock ∨ ∀ k, v'.ownBlock = some k → w.heap.size ≤ k) : LgRaw w' h { t with O := v', own := fun k => t.own k ∨ v'.ownBlock = some k } { G with opn := opn' } := by
  have hne : ∀ {g : Nat} {T : TypeId} {cs : Array Value} {fz : Nat × Nat}, w.heap[g]? = some (.cells cs T fz) → T ≠ tItem → ¬ t.O.ownBlock = some g := fun hg hT => own_other hl.opn hg hT
  have hnm : ¬ t.O.ownBlock = some t.M := fun e => own_no_map (W := w) hl.map hl.opn _ e rfl
  obtain ⟨cs0, hb0⟩ := hl.struc
  refine ⟨⟨cs0, hb0.chg hc (hne hb0 (by decide))⟩, ?_, ho, hl.map.chg hc hnm, .inl hl.ownL, .inl hl.ownM, fun k hk => .inl (hl.ownR k hk), fun k hk => .inr hk, ?_, hl.far⟩
  · obtain ⟨ses, h1, h2, h3⟩ := hl.regs
    refine ⟨ses, h1, own_chg h2 hc (fun k hk e => own_ne h2 hl.opn (by decide) k hk e), fun i S hS => ?_⟩
    obtain ⟨v, e, A, c, h4, h5, h6, h7⟩ := h3 i S hS
    refine ⟨v, e, A, c, h4, h5, h6.notS hc (fun g off h0 hA => (h7 g off (by omega) hA).2), fun g off h0 hA => ⟨.inl (h7 g off h0 hA).1, ?_⟩⟩
    rcases hb with hb | hb
    · show v'.ownBlock ≠ some g
      rw [hb]; exact (h7 g off h0 hA).2
    · intro e'
      have := hb g e'
      have := hl.lt g (h7 g off h0 hA).1
      omega
  · rintro k (hk | hk)
    · exact Nat.lt_of_lt_of_le (hl.lt k hk) hc.size
    · exact (ho.lt k hk).2
end
structure PutMid (w : World) (h : DevH) (t t2 : LgH) (G2 : Lg) (D2 : Dev) (v : Value) (lost : List Item) (ib : Nat) (x : Item) (ks : Keys) (W : World) : Prop where
  raw : LgRaw W h t2 { G2 with keys := ks }
  box : Blk W t2.L tLog (boxOf h t2 G2)
  item : Blk W ib tItem (itc x).toArray
  dev : DevAt W h D2
  lost : W.ownsRow w.heap.size tItem 5 v lost.length (its lost)
  chg : Chg (fun k => h.foot k ∨ t.spot k) w W
section
variable {w W W' : World} {h : DevH} {t t2 : LgH} {G2 : Lg} {D2 : Dev} {v : Value} {lost : List Item} {ib : Nat} {x : Item} {ks ks' : Keys}
theorem PutMid.chgNo (hm : PutMid w h t t2 G2 D2 v lost ib x ks W) (hc : Chg No W W') : PutMid w h t t2 G2 D2 v lost ib x ks W' :=
  ⟨hm.raw.chgNo hc, hm.box.chg hc (fun h => h), hm.item.chg hc (fun h => h), (DevN.chgNo hm.dev hc).at_, own_chg hm.lost hc (fun _ _ h => h), hm.chg.then hc (fun _ _ h => h.elim)⟩
theorem PutMid.mapped (hm : PutMid w h t t2 G2 D2 v lost ib x ks W) (hsp : ∀ k, t2.spot k → t.spot k ∨ w.heap.size ≤ k) (hc : Chg (fun k => k = t2.M) W W') (hmap : MapIs skey W' t2.M (amap plv ks')) : PutMid w h t t2 G2 D2 v lost ib x ks' W' :=
  ⟨hm.raw.mapped hc hmap, hm.box.chg hc (fun e => hm.raw.map.ne_blk hm.box e.symm), hm.item.chg hc (fun e => hm.raw.map.ne_blk hm.item e.symm), (dev_map hm.dev hm.raw.map hm.raw.far hc).at_, own_chg hm.lost hc (own_no_map (W := W') hm.raw.map hm.lost),
    hm.chg.then hc (fun k hk e => .inr (by rcases hsp k (.inr (.inl e)) with h | h; exact h; omega))⟩
end
theorem sl_opn {G : Lg} {D : Dev} (h : (G.sl D).e = 0) : (G.sl D).G.opn = [] := by
  unfold Lg.sl at h ⊢
  split
  · rename_i h0; exact h0
  · rename_i h0
    rw [if_neg h0] at h
    split
    · rename_i h1; rw [if_pos h1] at h; simp at h
    · rename_i h1
      rw [if_neg h1] at h
      split
      · rename_i h2; rw [if_pos h2] at h; simp at h
      · rename_i h2
        rw [if_neg h2] at h
        split
        · rfl
        · rename_i h3; rw [if_neg h3] at h; exact absurd h h3
theorem dev_ty {S : Nat → Prop} {N : Nat} {W W' : World} {h : DevH} {D : Dev} (hd : DevN N W h D) (hc : Chg S W W') (hS : ∀ k, k < W.heap.size → S k → ∃ cs T fz, W.heap[k]? = some (.cells cs T fz) ∧ T ≠ tDev ∧ T ≠ tPP ∧ T ≠ tPage ∧ T ≠ tU8) : DevN N W' h D := by
  refine hd.chg hc (fun e => ?_) (fun e => ?_) (fun e => ?_) (fun g cs T _ hT hb e => ?_)
  · obtain ⟨a, b, c, e', hb⟩ := hd.box
    obtain ⟨cs, T, fz, hg, h1, _⟩ := hS _ hb.lt e
    unfold Blk at hb; rw [hg] at hb; injection hb with hb; injection hb with _ e2; exact h1 e2
  · obtain ⟨ps, hb, _⟩ := hd.row
    obtain ⟨cs, T, fz, hg, _, h1, _⟩ := hS _ hb.lt e
    unfold Blk at hb; rw [hg] at hb; injection hb with hb; injection hb with _ e2; exact h1 e2
  · obtain ⟨es, hm, _⟩ := hd.map
    obtain ⟨cs, T, fz, hg, _⟩ := hS _ hm.lt e
    exact absurd rfl (hm.ne_blk hg)
  · obtain ⟨cs', T', fz, hg, _, _, h1, h2⟩ := hS _ hb.lt e
    unfold Blk at hb; rw [hg] at hb; injection hb with hb; injection hb with _ e2
    rcases hT with hT | hT
    · exact h1 (by rw [e2, hT])
    · exact h2 (by rw [e2, hT])
theorem own_cells_at {w : World} {base e size n : Nat} {v : Value} {xs : List Value} (ho : w.ownsRow base e size v n xs) {k : Nat} (hk : v.ownBlock = some k) : ∃ cs, w.heap[k]? = some (.cells cs e (0, 0)) := by
  rcases ho.2 with ⟨e1, _⟩ | ⟨g', cap, cur, e1, _, hg', _⟩
  · rw [e1] at hk; simp [Value.ownBlock] at hk
  · rw [e1] at hk
    have : g' = k := by simpa [Value.ownBlock] using hk
    subst this
    exact ⟨cur, hg'⟩
theorem LgPost.base {w w2 w' : World} {h : DevH} {t t' : LgH} {R : LgR} {v : Value} (hp : LgPost w2 h t R v t' w') (hc : Chg No w w2) : LgPost w h t R v t' w' :=
  ⟨own_base hp.lost hc.size, hp.dev, hp.log, (hc.mono (fun _ _ h => h.elim)).then hp.chg (fun _ _ h => h), hp.L, fun k hk => by rcases hp.own k hk with h | h; exact .inl h; exact .inr (Nat.le_trans hc.size h), fun k hk => by rcases hp.spot k hk with h | h; exact .inl h; exact .inr (Nat.le_trans hc.size h), hp.lostNo⟩
theorem foot_size {N : Nat} {w : World} {h : DevH} {D : Dev} (hd : DevN N w h D) {k : Nat} (hk : h.foot k) : k < w.heap.size := by
  rcases hk with rfl | rfl | rfl
  · obtain ⟨a, b, c, e, hb⟩ := hd.box; exact hb.lt
  · obtain ⟨ps, hb, _⟩ := hd.row; exact hb.lt
  · obtain ⟨es, hm, _⟩ := hd.map; exact hm.lt
theorem LgAt.spot_own {w : World} {h : DevH} {t : LgH} {G : Lg} (hl : LgAt w h t G) {k : Nat} (hk : t.spot k) : t.own k := by
  rcases hk with rfl | rfl | hk | hk
  · exact hl.ownL
  · exact hl.ownM
  · exact hl.ownR k hk
  · exact hl.ownO k hk
theorem PutMid.done {w W1 w9 : World} {h : DevH} {t t2 : LgH} {G2 : Lg} {D2 : Dev} {v V9 : Value} {lost : List Item} {ib : Nat} {x : Item} (hm : PutMid w h t t2 G2 D2 v lost ib x (aset G2.keys x.key ⟨true, 0, G2.opn.length⟩) W1)
    (ho9 : w9.ownsRow 0 tItem 5 V9 (G2.opn.length + 1) (its G2.opn ++ itc x)) (hc9 : Chg (fun k => t2.O.ownBlock = some k) W1 w9) (hb9 : V9.ownBlock = t2.O.ownBlock ∨ V9.ownBlock = some (W1.heap.size + 1))
    (hok : (G2.add x).Ok) (hL : t2.L = t.L) (hown : ∀ k, t2.own k → t.own k ∨ w.heap.size ≤ k) (hsp : ∀ k, t2.spot k → t.spot k ∨ w.heap.size ≤ k) (hno : ∀ k, v.ownBlock = some k → ¬ t2.own k) :
    LgPost w h t ⟨G2.add x, D2, lost, 0⟩ v { t2 with O := V9, own := fun k => t2.own k ∨ V9.ownBlock = some k } ((w9.setCell ⟨t2.L, 4, none⟩ V9).setCell ⟨t2.L, 5, none⟩ (.int .i64 (isum (G2.opn ++ [x]) : Nat))) := by
  have hsz : w.heap.size ≤ W1.heap.size := hm.chg.size
  have hLne : ¬ t2.O.ownBlock = some t2.L := fun e => own_other hm.raw.opn hm.box (by decide) e
  have hbox9 := hm.box.chg hc9 hLne
  have hc : Chg (fun j => j = t2.L) w9 ((w9.setCell ⟨t2.L, 4, none⟩ V9).setCell ⟨t2.L, 5, none⟩ (.int .i64 (isum (G2.opn ++ [x]) : Nat))) := Chg.setCell (S := fun j => j = t2.L) (Chg.setCell (S := fun j => j = t2.L) (Chg.refl _ _) (.inl rfl) _) (.inl rfl) _
  have hb := (hbox9.set_ 4 V9).set_ 5 (.int .i64 (isum (G2.opn ++ [x]) : Nat))
  have ho9' : w9.ownsRow 0 tItem 5 V9 (G2.opn ++ [x]).length (its (G2.opn ++ [x])) := by rw [its_append, its_one, List.length_append]; exact ho9
  have hraw := (hm.raw.grow (t := t2) (opn' := G2.opn ++ [x]) hc9 ho9' (by rcases hb9 with e | e; exact .inl e; exact .inr (fun k hk => by rw [e] at hk; injection hk with hk; omega))).boxed hc ⟨_, hb⟩
  have hvL : ∀ k, v.ownBlock = some k → ¬ k = t2.L := fun k hk e => hno k hk (by rw [e]; exact hm.raw.ownL)
  have hvO : ∀ k, v.ownBlock = some k → ¬ t2.O.ownBlock = some k := fun k hk e => hno k hk (hm.raw.ownO k e)
  refine ⟨own_chg (own_chg hm.lost hc9 hvO) hc hvL, ?_, ?_, ?_, hL, ?_, ?_, ?_⟩
  · have hd9 : DevN W1.heap.size w9 h D2 := dev_ty hm.dev hc9 (fun k _ e => by obtain ⟨cs, hg⟩ := own_cells_at hm.raw.opn e; exact ⟨cs, tItem, _, hg, by decide, by decide, by decide, by decide⟩)
    exact (dev_ty hd9 hc (fun k _ e => by subst e; exact ⟨_, tLog, _, hbox9, by decide, by decide, by decide, by decide⟩)).at_
  · refine LgRaw.at_ (G := G2.add x) hraw ?_ hok
    have e : boxOf h { t2 with O := V9, own := fun k => t2.own k ∨ V9.ownBlock = some k } (G2.add x) = ((boxOf h t2 G2).setIfInBounds 4 V9).setIfInBounds 5 (.int .i64 (isum (G2.opn ++ [x]) : Nat)) := by
      simp [boxOf, Lg.add]
    rw [e]; exact hb
  · refine (hm.chg.then hc9 (fun k hk e => ?_)).then hc (fun k hk e => ?_)
    · rcases hsp k (.inr (.inr (.inr e))) with h | h
      · exact .inr h
      · omega
    · rcases hsp k (.inl e) with h | h
      · exact .inr h
      · omega
  · rintro k (hk | hk)
    · exact hown k hk
    · rcases hb9 with e | e
      · rw [e] at hk; exact hown k (hm.raw.ownO k hk)
      · rw [e] at hk; injection hk with hk; right; omega
  · rintro k (hk | hk | hk | hk)
    · exact hsp k (.inl hk)
    · exact hsp k (.inr (.inl hk))
    · exact hsp k (.inr (.inr (.inl hk)))
    · rcases hb9 with e | e
      · exact hsp k (.inr (.inr (.inr (by rw [← e]; exact hk))))
      · have hk' : V9.ownBlock = some k := hk
        rw [e] at hk'; injection hk' with hk'; right; omega
  · rintro k hk (ho | ho)
    · exact hno k hk ho
    · rcases hb9 with e | e
      · rw [e] at ho; exact hvO k hk ho
      · rw [e] at ho; injection ho with ho
        have := (hm.lost.lt k hk).2; omega
section
variable {N : Nat} {w : World} {h : DevH} {t : LgH} {G : Lg} {D : Dev}
set_option maxRecDepth 100000 in
set_option maxHeartbeats 8000000 in
theorem gput_calls (hd : DevN N w h D) (hl : LgAt w h t G) (x : Item) (hk : x.key.size ≤ 140737488351232) (hv : x.val.size ≤ 140737488351232) :
    Calls Tryz.prog 45 #[.pointer (some ⟨t.L, 0, none⟩), itemV x] w fun e w' => ∃ v t', e = .returned (.tuple #[v, .int .i64 (G.put D x).e]) ∧ LgPost w h t (G.put D x) v t' w' := by
  have HD := Lib.hid hd
  have HL := Lib.hid hl
  have hll := hl.lt _ hl.ownL
  have HGOOD := fun W => Lib.hid (good_calls x W)
  have HSIZE := fun W => Lib.hid (size_calls x W hk hv)
  have HSEAL := fun W => Lib.hid (fun hc : Chg No w W => seal_calls (hd.chgNo hc) (hl.chgNo hc))
  have hszb : x.size ≤ 281474976702496 := by unfold Item.size; omega
  have hsum := hl.ok.sum
  obtain ⟨sz, hsz⟩ : ∃ sz, sz = x.size := ⟨_, rfl⟩
  have hP : Hid (G.put D x = if x.good && decide (sz ≤ 1472) then (if isum G.opn + sz ≤ 1472 then ⟨G.add x, D, [], 0⟩ else if (G.sl D).e = 0 then ⟨(G.sl D).G.add x, (G.sl D).D, (G.sl D).lost, 0⟩ else G.sl D) else ⟨G, D, [], 1⟩) := by show _ = _; unfold Lg.put Lg.fits; rw [hsz]
  rw [← hsz] at HSIZE hszb
  have HSZ := Lib.hid hsz
  have hbox := Blk.new w tItem (itc x).toArray
  have HBOX := Lib.hid hbox
  have hstay : ∀ W, Chg No w W → LgPost w h t ⟨G, D, [], 1⟩ (.slice none 0 0) t W := fun W hc => ⟨World.ownsRow_nil _ _ _ _, (HD.out.chgNo hc).at_, HL.out.chgNo hc, hc.mono (fun _ _ h => h.elim), rfl, fun k hk => .inl hk, fun k hk => .inl hk, fun k hk => by simp [Value.ownBlock] at hk⟩
  have HSTAY := Lib.hid hstay
  clear hstay hd hl hk hv hsz hbox
  cases hg : x.good with
  | false =>
    rw [hg] at HGOOD
    have HS : Hid (G.put D x = ⟨G, D, [], 1⟩) := by show _ = _; rw [hP.out, hg]; rfl
    clear hP hg HSEAL
    go_enter Tryz.func45, Tryz.ntmps45
    go_wp2_with fail
    refine (HSIZE _).out.mono ?_
    rintro e w1 ⟨rfl, hc1⟩
    have HC1 := Lib.hid hc1
    have HB1 := Lib.hid (HBOX.out.chg hc1 (fun h => h))
    have a0 := HB1.out.cell 0
    have a1 := HB1.out.cell 1
    have a2 := HB1.out.cell 2
    have a3 := HB1.out.cell 3
    have a4 := HB1.out.cell 4
    simp [itc] at a0 a1 a2 a3 a4
    clear hc1 HSIZE
    go_wp2_with fail
    refine (HGOOD _).out.mono ?_
    rintro e w2 ⟨rfl, hc2⟩
    have HC2 := Lib.hid hc2
    clear hc2
    go_wp2
    go_ret2
    exact ⟨_, t, by rw [HS.out]; rfl, by rw [HS.out]; exact HSTAY.out _ (((Chg.refl _ _).alloc _).trans (HC1.out.trans HC2.out))⟩
  | true =>
    rw [hg] at HGOOD
    by_cases hfit : sz ≤ 1472
    rotate_left
    · have HS : Hid (G.put D x = ⟨G, D, [], 1⟩) := by show _ = _; rw [hP.out, hg, decide_eq_false hfit]; rfl
      have hb : decide ((1472 : Int) < (sz : Int)) = true := by simp; omega
      clear hP hg HSEAL
      go_enter Tryz.func45, Tryz.ntmps45
      go_wp2_with fail
      refine (HSIZE _).out.mono ?_
      rintro e w1 ⟨rfl, hc1⟩
      have HC1 := Lib.hid hc1
      have HB1 := Lib.hid (HBOX.out.chg hc1 (fun h => h))
      have a0 := HB1.out.cell 0
      have a1 := HB1.out.cell 1
      have a2 := HB1.out.cell 2
      have a3 := HB1.out.cell 3
      have a4 := HB1.out.cell 4
      simp [itc] at a0 a1 a2 a3 a4
      clear hc1 HSIZE
      go_wp2_with fail
      refine (HGOOD _).out.mono ?_
      rintro e w2 ⟨rfl, hc2⟩
      have HC2 := Lib.hid hc2
      clear hc2
      go_wp2
      go_ret2
      exact ⟨_, t, by rw [HS.out]; rfl, by rw [HS.out]; exact HSTAY.out _ (((Chg.refl _ _).alloc _).trans (HC1.out.trans HC2.out))⟩
    · have hb : decide ((1472 : Int) < (sz : Int)) = false := by simp; omega
      have hb' : ¬ (1472 : Int) < (sz : Int) := by omega
      have HP2 : Hid (G.put D x = if isum G.opn + sz ≤ 1472 then ⟨G.add x, D, [], 0⟩ else if (G.sl D).e = 0 then ⟨(G.sl D).G.add x, (G.sl D).D, (G.sl D).lost, 0⟩ else G.sl D) := by
        show _ = _
        rw [hP.out, hg, decide_eq_true hfit]; rfl
      have HGX := Lib.hid hg
      obtain ⟨su, hsu⟩ : ∃ su, su = isum G.opn := ⟨_, rfl⟩
      rw [← hsu] at HP2 hsum
      have HSU := Lib.hid hsu
      clear hP hg hsu
      go_enter Tryz.func45, Tryz.ntmps45
      go_wp2_with fail
      refine (HSIZE _).out.mono ?_
      rintro e w1 ⟨rfl, hc1⟩
      have HC1 := Lib.hid hc1
      have HB1 := Lib.hid (HBOX.out.chg hc1 (fun h => h))
      have a0 := HB1.out.cell 0
      have a1 := HB1.out.cell 1
      have a2 := HB1.out.cell 2
      have a3 := HB1.out.cell 3
      have a4 := HB1.out.cell 4
      simp [itc] at a0 a1 a2 a3 a4
      clear hc1 HSIZE
      go_wp2_with fail
      refine (HGOOD _).out.mono ?_
      rintro e w2 ⟨rfl, hc2⟩
      have HC2 : Hid (Chg No w w2) := ((Chg.refl _ _).alloc _).trans (HC1.out.trans hc2)
      have HB2 := Lib.hid (HB1.out.chg hc2 (fun h => h))
      have d5 := (HL.out.chgNo HC2.out).box.cell 5
      simp at d5
      rw [← HSU.out] at d5
      clear hc2 HGOOD a0 a1 a2 a3 a4 HC1 HB1
      have hwr : IntKind.i64.wrap ((su : Int) + (sz : Int)) = (su : Int) + (sz : Int) := IntWalk.i64_in _ (by omega)
      by_cases hroom : su + sz ≤ 1472
      · have hc : decide ((1472 : Int) < (su : Int) + (sz : Int)) = false := by simp; omega
        have hc' : ¬ (1472 : Int) < (su : Int) + (sz : Int) := by omega
        have HR : Hid (G.put D x = ⟨G.add x, D, [], 0⟩) := by show _ = _; rw [HP2.out, if_pos hroom]
        have HROOM : Hid (isum G.opn + x.size ≤ 1472) := by show _ ≤ _; rw [← HSU.out, ← HSZ.out]; exact hroom
        have HM0 : Hid (PutMid w h t t G D (.slice none 0 0) [] w.heap.size x G.keys w2) := ⟨(HL.out.chgNo HC2.out).raw, (HL.out.chgNo HC2.out).box, HB2.out, (HD.out.chgNo HC2.out).at_, World.ownsRow_nil _ _ _ _, HC2.out.mono (fun _ _ h => h.elim)⟩
        have HL2 := Lib.hid (HL.out.chgNo HC2.out)
        have HIO : Hid (∀ k, t.O.ownBlock = some k → k ≠ w.heap.size) := fun k hk e => by have := HL.out.lt k (HL.out.ownO k hk); omega
        have HW64 : Hid (wrap64 ((isum G.opn : Int) + (sz : Int)) = ((isum (G.opn ++ [x]) : Nat) : Int)) := by show _ = _; rw [isum_app, ← HSZ.out, ← HSU.out, IntWalk.wrap64_in _ (by omega)]; omega
        have HOK : Hid ((G.add x).Ok) := HL.out.ok.add HGX.out HROOM.out
        have HLE : Hid (t.L = t.L) := rfl
        have HOWN2 : Hid (∀ k, t.own k → t.own k ∨ w.heap.size ≤ k) := fun k hk => .inl hk
        have HVN : Hid (∀ k, (Value.slice none 0 0).ownBlock = some k → ¬ t.own k) := fun k hk => by simp [Value.ownBlock] at hk
        have HSP : Hid (∀ k, t.spot k → t.spot k ∨ w.heap.size ≤ k) := fun k hk => .inl hk
        clear hroom HP2 HSEAL
        have z4 := HM0.out.box.cell 4
        have z5 := HM0.out.box.cell 5
        have z7 := HM0.out.box.cell 7
        simp [boxOf] at z4 z5 z7
        have hno2 := HL2.out.ok.len
        obtain ⟨Ao, co, hO, hnco, hrdo⟩ := HL2.out.openAs
        rw [hO] at z4
        obtain ⟨no, hno⟩ : ∃ no, no = G.opn.length := ⟨_, rfl⟩
        rw [← hno] at z4 hno2
        have HNO := Lib.hid hno
        have a0 := HM0.out.item.cell 0
        simp [itc] at a0
        obtain ⟨o, hrun, hmap⟩ := (HM0.out.chgNo ((Chg.refl _ _).drew)).raw.map.update (P := Tryz.prog) (keyLaw_string (Tryz.underlying9)) Tryz.underlying128 x.key (plv ⟨true, 0, no⟩)
        rw [aset_amap] at hmap
        simp only [plv, Int.natCast_zero] at hrun
        have HM1 := Lib.hid ((HM0.out.chgNo ((Chg.refl _ _).drew)).mapped HSP.out (chg_setBlock _ _ _) hmap)
        clear hmap hO hnco hrdo hno
        go_wp2_with fail
        go_region
        go_wp2_with fail
        refine wp_forget (fun W => PutMid w h t t G D (.slice none 0 0) [] w.heap.size x (aset G.keys x.key ⟨true, 0, no⟩) W) HM1.out (fun W1 hW1 => ?_)
        have HM1' := Lib.hid hW1
        have y4 := hW1.box.cell 4
        have y5 := hW1.box.cell 5
        simp [boxOf] at y4 y5
        obtain ⟨Ao, co, hO, hnco, hrdo⟩ := HL2.out.openAs
        rw [hO, ← HNO.out] at y4
        have b0 := hW1.item.cell 0
        have b1 := hW1.item.cell 1
        have b2 := hW1.item.cell 2
        have b3 := hW1.item.cell 3
        have b4 := hW1.item.cell 4
        simp [itc] at b0 b1 b2 b3 b4
        have HOO := Lib.hid hO
        have HLI : Hid (t.L ≠ w.heap.size) := hW1.box.ne_ hW1.item (by decide)
        have hil1 := hW1.box.lt
        have hil2 := hW1.item.lt
        have hown1 : W1.ownsRow 0 tItem 5 (.slice Ao no co) no (its G.opn) := by have h1 := hW1.raw.opn; simp only at h1; rw [hO, ← HNO.out] at h1; exact h1
        have HOWN := Lib.hid hown1
        have h63 : no + 1 ≤ maxLen := by simp only [maxLen]; omega
        have hby : (no + 1) * 56 ≤ 140737488355328 := by omega
        clear hrun z4 z5 z7 a0 hW1 hO hnco hrdo hown1
        (go_region_law
          ((have hr0 := rd_item W1.drew x
            refine step_app _ rfl (.tmp 50) (.tmp 52) tItems rfl tItem Tryz.underlying46 ti_item rfl (by omega) 0 (.slice Ao no co) no (its G.opn) rfl (HOWN.out.alloc _) tItem _ 1 1 (itc x) rfl (rd_item _ x) (itc_one_cell x) h63 hby (Nat.zero_le _) ?_
            intro v9 w9 ho9 hg9 hb9
            obtain ⟨A9, c9, rfl, hnc9, hrd9⟩ := own_slice ho9
            clear hrd9
            have HO9 := Lib.hid ho9
            have HB9 := Lib.hid hb9
            have HG9 : Hid (Chg (fun k => Value.ownBlock (.slice Ao no co) = some k) W1 w9) := Chg.grown (by (repeat (first | (with_reducible exact Chg.refl _ _) | (with_reducible assumption) | (with_reducible refine Chg.drewN ?_ _) | (with_reducible refine Chg.drew ?_) | (with_reducible refine Chg.alloc ?_ _) | (with_reducible refine Chg.setCell ?_ (by first | (left; simp [DevH.foot]; done) | (right; simp; done) | (right; simp; omega)) _)))) hg9 (fun k' hk' => .inl hk')
            clear ho9 hg9 hb9
            have hbi := HM1'.out.item.chg HG9.out (fun e => HIO.out _ (by rw [HOO.out, ← HNO.out]; exact e) rfl)
            have e0 := hbi.cell 0
            have e1 := hbi.cell 1
            have e2 := hbi.cell 2
            have e3 := hbi.cell 3
            have e4 := hbi.cell 4
            simp [itc] at e0 e1 e2 e3 e4
            have hbb := HM1'.out.box.chg HG9.out (fun e => own_other HOWN.out HM1'.out.box (by decide) e)
            have q4 := hbb.cell 4
            have q5 := hbb.cell 5
            have f4 := hbb.frozen 4
            have f5 := hbb.frozen 5
            have HBB := Lib.hid hbb
            simp [boxOf] at q4 q5
            have hLi : t.L ≠ w.heap.size := HLI.out
            have hiL : w.heap.size ≠ t.L := fun e => HLI.out e.symm
            clear hbi hbb)))
        all_goals
          go_wp2
          go_ret2
          refine ⟨(.slice none 0 0), { t with O := .slice A9 (no + 1) c9, own := fun k => t.own k ∨ (Value.slice A9 (no + 1) c9).ownBlock = some k }, by rw [HR.out]; rfl, ?_⟩
          rw [HR.out, HW64.out]
          exact PutMid.done (t := t) (HNO.out ▸ HM1'.out) (HNO.out ▸ HO9.out) (by have := HG9.out; rw [HOO.out, ← HNO.out]; exact this) (by rcases HB9.out with e | e; exact .inl (by rw [HOO.out, ← HNO.out]; exact e); exact .inr (by rw [e]; simp)) HOK.out (by first | rfl | exact HLE.out) HOWN2.out HSP.out HVN.out
      · have hc : decide ((1472 : Int) < (su : Int) + (sz : Int)) = true := by simp; omega
        have hc' : (1472 : Int) < (su : Int) + (sz : Int) := by omega
        have HR1 : Hid (G.put D x = if (G.sl D).e = 0 then ⟨(G.sl D).G.add x, (G.sl D).D, (G.sl D).lost, 0⟩ else G.sl D) := by show _ = _; rw [HP2.out, if_neg hroom]
        have HOPN : Hid ((G.sl D).e = 0 → (G.sl D).G.opn = []) := sl_opn
        clear hroom HP2
        go_wp2_with fail
        refine ((HSEAL _).out HC2.out).mono ?_
        rintro e w3 ⟨v, t2, rfl, hpost⟩
        have HPOST := Lib.hid (hpost.base HC2.out)
        have HB3 := Lib.hid (HB2.out.chg hpost.chg (by
          rintro (hf | hs)
          · have := foot_size HD.out hf; omega
          · have := HL.out.lt _ (HL.out.spot_own hs); omega))
        have HIB : Hid (∀ k, t2.own k → k ≠ w.heap.size) := fun k hk e => by
          have h1 := HB2.out.lt
          rcases hpost.own k hk with h | h
          · have := HL.out.lt k h; omega
          · omega
        clear hpost HSEAL
        obtain ⟨s, hs⟩ : ∃ s, s = G.sl D := ⟨_, rfl⟩
        rw [← hs] at HPOST HR1 HOPN ⊢
        clear hs
        obtain ⟨G2, D2, lost, er⟩ := s
        simp only at HPOST HR1 HOPN ⊢
        by_cases her : er = 0
        rotate_left
        · have hb : ((er : Int) != 0) = true := by simpa using her
          have HR : Hid (G.put D x = ⟨G2, D2, lost, er⟩) := by show _ = _; rw [HR1.out, if_neg her]
          clear HR1 HOPN
          go_wp2
          go_ret2
          exact ⟨v, t2, by rw [HR.out]; rfl, by rw [HR.out]; exact HPOST.out⟩
        subst her
        have HR : Hid (G.put D x = ⟨G2.add x, D2, lost, 0⟩) := by show _ = _; rw [HR1.out, if_pos rfl]
        have hop := HOPN.out rfl
        have HROOM : Hid (isum G2.opn + x.size ≤ 1472) := by show _ ≤ _; rw [hop, ← HSZ.out]; simp [isum]; exact hfit
        have HOK : Hid ((G2.add x).Ok) := HPOST.out.log.ok.add HGX.out HROOM.out
        have HM0 : Hid (PutMid w h t t2 G2 D2 v lost w.heap.size x G2.keys w3) := ⟨HPOST.out.log.raw, HPOST.out.log.box, HB3.out, HPOST.out.dev, HPOST.out.lost, HPOST.out.chg⟩
        have HL2 := Lib.hid HPOST.out.log
        have HW64 : Hid (wrap64 ((isum G2.opn : Int) + (sz : Int)) = ((isum (G2.opn ++ [x]) : Nat) : Int)) := by show _ = _; rw [isum_app, ← HSZ.out, hop, IntWalk.wrap64_in _ (by simp [isum]; omega)]; omega
        have HIO : Hid (∀ k, t2.O.ownBlock = some k → k ≠ w.heap.size) := fun k hk => HIB.out k (HPOST.out.log.ownO k hk)
        have HLE : Hid (t2.L = t.L) := HPOST.out.L
        have HOWN2 : Hid (∀ k, t2.own k → t.own k ∨ w.heap.size ≤ k) := HPOST.out.own
        have HVN : Hid (∀ k, v.ownBlock = some k → ¬ t2.own k) := HPOST.out.lostNo
        have HSP : Hid (∀ k, t2.spot k → t.spot k ∨ w.heap.size ≤ k) := HPOST.out.spot
        have hLL := HPOST.out.L
        rw [← hLL]
        clear HR1 HOPN hop d5 hLL
        have z4 := HM0.out.box.cell 4
        have z5 := HM0.out.box.cell 5
        have z7 := HM0.out.box.cell 7
        simp [boxOf] at z4 z5 z7
        have hno2 := HL2.out.ok.len
        obtain ⟨Ao, co, hO, hnco, hrdo⟩ := HL2.out.openAs
        rw [hO] at z4
        obtain ⟨no, hno⟩ : ∃ no, no = G2.opn.length := ⟨_, rfl⟩
        rw [← hno] at z4 hno2
        have HNO := Lib.hid hno
        have a0 := HM0.out.item.cell 0
        simp [itc] at a0
        obtain ⟨o, hrun, hmap⟩ := (HM0.out.chgNo ((Chg.refl _ _).drew)).raw.map.update (P := Tryz.prog) (keyLaw_string (Tryz.underlying9)) Tryz.underlying128 x.key (plv ⟨true, 0, no⟩)
        rw [aset_amap] at hmap
        simp only [plv, Int.natCast_zero] at hrun
        have HM1 := Lib.hid ((HM0.out.chgNo ((Chg.refl _ _).drew)).mapped HSP.out (chg_setBlock _ _ _) hmap)
        clear hmap hO hnco hrdo hno
        go_wp2_with fail
        go_region
        go_wp2_with fail
        refine wp_forget (fun W => PutMid w h t t2 G2 D2 v lost w.heap.size x (aset G2.keys x.key ⟨true, 0, no⟩) W) HM1.out (fun W1 hW1 => ?_)
        have HM1' := Lib.hid hW1
        have y4 := hW1.box.cell 4
        have y5 := hW1.box.cell 5
        simp [boxOf] at y4 y5
        obtain ⟨Ao, co, hO, hnco, hrdo⟩ := HL2.out.openAs
        rw [hO, ← HNO.out] at y4
        have b0 := hW1.item.cell 0
        have b1 := hW1.item.cell 1
        have b2 := hW1.item.cell 2
        have b3 := hW1.item.cell 3
        have b4 := hW1.item.cell 4
        simp [itc] at b0 b1 b2 b3 b4
        have HOO := Lib.hid hO
        have HLI : Hid (t2.L ≠ w.heap.size) := hW1.box.ne_ hW1.item (by decide)
        have hil1 := hW1.box.lt
        have hil2 := hW1.item.lt
        have hown1 : W1.ownsRow 0 tItem 5 (.slice Ao no co) no (its G2.opn) := by have h1 := hW1.raw.opn; simp only at h1; rw [hO, ← HNO.out] at h1; exact h1
        have HOWN := Lib.hid hown1
        have h63 : no + 1 ≤ maxLen := by simp only [maxLen]; omega
        have hby : (no + 1) * 56 ≤ 140737488355328 := by omega
        clear hrun z4 z5 z7 a0 hW1 hO hnco hrdo hown1
        first
        | (go_region_law
          ((have hr0 := rd_item W1.drew x
            refine step_app _ rfl (.tmp 50) (.tmp 52) tItems rfl tItem Tryz.underlying46 ti_item rfl (by omega) 0 (.slice Ao no co) no (its G2.opn) rfl (HOWN.out.alloc _) tItem _ 1 1 (itc x) rfl (rd_item _ x) (itc_one_cell x) h63 hby (Nat.zero_le _) ?_
            intro v9 w9 ho9 hg9 hb9
            obtain ⟨A9, c9, rfl, hnc9, hrd9⟩ := own_slice ho9
            clear hrd9
            have HO9 := Lib.hid ho9
            have HB9 := Lib.hid hb9
            have HG9 : Hid (Chg (fun k => Value.ownBlock (.slice Ao no co) = some k) W1 w9) := Chg.grown (by (repeat (first | (with_reducible exact Chg.refl _ _) | (with_reducible assumption) | (with_reducible refine Chg.drewN ?_ _) | (with_reducible refine Chg.drew ?_) | (with_reducible refine Chg.alloc ?_ _) | (with_reducible refine Chg.setCell ?_ (by first | (left; simp [DevH.foot]; done) | (right; simp; done) | (right; simp; omega)) _)))) hg9 (fun k' hk' => .inl hk')
            clear ho9 hg9 hb9
            have hbi := HM1'.out.item.chg HG9.out (fun e => HIO.out _ (by rw [HOO.out, ← HNO.out]; exact e) rfl)
            have e0 := hbi.cell 0
            have e1 := hbi.cell 1
            have e2 := hbi.cell 2
            have e3 := hbi.cell 3
            have e4 := hbi.cell 4
            simp [itc] at e0 e1 e2 e3 e4
            have hbb := HM1'.out.box.chg HG9.out (fun e => own_other HOWN.out HM1'.out.box (by decide) e)
            have q4 := hbb.cell 4
            have q5 := hbb.cell 5
            have f4 := hbb.frozen 4
            have f5 := hbb.frozen 5
            have HBB := Lib.hid hbb
            simp [boxOf] at q4 q5
            have hLi : t2.L ≠ w.heap.size := HLI.out
            have hiL : w.heap.size ≠ t2.L := fun e => HLI.out e.symm
            clear hbi hbb)))
        | fail "region"
        all_goals
          go_wp2
          go_ret2
          refine ⟨v, { t2 with O := .slice A9 (no + 1) c9, own := fun k => t2.own k ∨ (Value.slice A9 (no + 1) c9).ownBlock = some k }, by rw [HR.out]; rfl, ?_⟩
          rw [HR.out, HW64.out]
          exact PutMid.done (t2 := t2) (HNO.out ▸ HM1'.out) (HNO.out ▸ HO9.out) (by have := HG9.out; rw [HOO.out, ← HNO.out]; exact this) (by rcases HB9.out with e | e; exact .inl (by rw [HOO.out, ← HNO.out]; exact e); exact .inr (by rw [e]; simp)) HOK.out (by first | rfl | exact HLE.out) HOWN2.out HSP.out HVN.out
end
end Go.Proofs.YtplpbbdakihnfaaGreat
end
