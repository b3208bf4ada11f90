/- Packed texts: RegL, TombC. -/
import Derived.Test.YtplpbbdakihnfaaGreatPk10
import Derived.Deep.RegionLaw
import Derived.Test.YtplpbbdakihnfaaGreatPk05
import Derived.Test.YtplpbbdakihnfaaGreatPk01
import Derived.Deep.QuietTactic
import Derived.BigQuiet

/- region's Put, walked. -/
section
namespace Go.Proofs.YtplpbbdakihnfaaGreat
open Go.RowKit
open Go.ChangeMaps (setBlock)
attribute [local go_sem ↓] Go.wp_at_zero Go.wp_at_succ
set_option linter.unusedSimpArgs false
set_option linter.unusedVariables false

theorem isum_app (l : List Item) (x : Item) : isum (l ++ [x]) = isum l + x.size := by simp [isum]
theorem Lg.Ok.add {G : Lg} (ho : G.Ok) {x : Item} (hx : x.good = true) (hs : isum G.opn + x.size ≤ 1472) : (G.add x).Ok :=
  { ho with
    good := by
      show goods (G.opn ++ [x]) = true
      rw [goods_append, ho.good]
      simp [goods, hx]
    sum := by
      show isum (G.opn ++ [x]) ≤ 1472
      rw [isum_app]; exact hs
    keys := by
      intro key p hp
      have h : aget (aset G.keys x.key ⟨true, 0, G.opn.length⟩) key = some p := hp
      rw [aget_aset] at h
      split at h
      · rename_i hk
        injection h with h
        subst h
        unfold Lg.plOk
        simp only [if_true]
        exact ⟨trivial, x, by simp [Lg.add], hk⟩
      · have := ho.keys key p h
        unfold Lg.plOk at this ⊢
        split
        · rename_i hop
          rw [if_pos hop] at this
          obtain ⟨h1, y, h2, h3⟩ := this
          refine ⟨h1, y, ?_, h3⟩
          show (G.opn ++ [x])[p.ix]? = some y
          rw [List.getElem?_append_left (List.getElem?_eq_some_iff.1 h2).1]
          exact h2
        · rename_i hop
          rw [if_neg hop] at this
          exact this }

section
variable {w : World} {h : DevH} {t : LgH} {G : Lg}
/-- the open region's row has grown -/
theorem LgRaw.grow {w' : World} (hl : LgRaw w h t G) {v' : Value} {opn' : List Item} (hc : Chg (fun k => t.O.ownBlock = some k) w w') (ho : w'.ownsRow 0 tItem 5 v' opn'.length (its opn'))
    (hb : v'.ownBlock = t.O.ownBlock ∨ ∀ k, v'.ownBlock = some k → w.heap.size ≤ k) : LgRaw w' h { t with O := v', own := fun k => t.own k ∨ v'.ownBlock = some k } { G with opn := opn' } := by
  have hne : ∀ {g : Nat} {T : TypeId} {cs : Array Value} {fz : Nat × Nat}, w.heap[g]? = some (.cells cs T fz) → T ≠ tItem → ¬ t.O.ownBlock = some g := fun hg hT => own_other hl.opn hg hT
  have hnm : ¬ t.O.ownBlock = some t.M := fun e => own_no_map (W := w) hl.map hl.opn _ e rfl
  obtain ⟨cs0, hb0⟩ := hl.struc
  refine ⟨⟨cs0, hb0.chg hc (hne hb0 (by decide))⟩, ?_, ho, hl.map.chg hc hnm, .inl hl.ownL, .inl hl.ownM, fun k hk => .inl (hl.ownR k hk), fun k hk => .inr hk, ?_, hl.far⟩
  · obtain ⟨ses, h1, h2, h3⟩ := hl.regs
    refine ⟨ses, h1, own_chg h2 hc (fun k hk e => own_ne h2 hl.opn (by decide) k hk e), fun i S hS => ?_⟩
    obtain ⟨v, e, A, c, h4, h5, h6, h7⟩ := h3 i S hS
    refine ⟨v, e, A, c, h4, h5, h6.notS hc (fun g off h0 hA => (h7 g off (by omega) hA).2), fun g off h0 hA => ⟨.inl (h7 g off h0 hA).1, ?_⟩⟩
    rcases hb with hb | hb
    · show v'.ownBlock ≠ some g
      rw [hb]; exact (h7 g off h0 hA).2
    · intro e'
      have := hb g e'
      have := hl.lt g (h7 g off h0 hA).1
      omega
  · rintro k (hk | hk)
    · exact Nat.lt_of_lt_of_le (hl.lt k hk) hc.size
    · exact (ho.lt k hk).2
end

/-- while an item is put in -/
structure PutMid (w : World) (h : DevH) (t t2 : LgH) (G2 : Lg) (D2 : Dev) (v : Value) (lost : List Item) (ib : Nat) (x : Item) (ks : Keys) (W : World) : Prop where
  raw : LgRaw W h t2 { G2 with keys := ks }
  box : Blk W t2.L tLog (boxOf h t2 G2)
  item : Blk W ib tItem (itc x).toArray
  dev : DevAt W h D2
  lost : W.ownsRow w.heap.size tItem 5 v lost.length (its lost)
  chg : Chg (fun k => h.foot k ∨ t.spot k) w W
section
variable {w W W' : World} {h : DevH} {t t2 : LgH} {G2 : Lg} {D2 : Dev} {v : Value} {lost : List Item} {ib : Nat} {x : Item} {ks ks' : Keys}
theorem PutMid.chgNo (hm : PutMid w h t t2 G2 D2 v lost ib x ks W) (hc : Chg No W W') : PutMid w h t t2 G2 D2 v lost ib x ks W' :=
  ⟨hm.raw.chgNo hc, hm.box.chg hc (fun h => h), hm.item.chg hc (fun h => h), (DevN.chgNo hm.dev hc).at_, own_chg hm.lost hc (fun _ _ h => h), hm.chg.then hc (fun _ _ h => h.elim)⟩
theorem PutMid.mapped (hm : PutMid w h t t2 G2 D2 v lost ib x ks W) (hsp : ∀ k, t2.spot k → t.spot k ∨ w.heap.size ≤ k) (hc : Chg (fun k => k = t2.M) W W') (hmap : MapIs skey W' t2.M (amap plv ks')) : PutMid w h t t2 G2 D2 v lost ib x ks' W' :=
  ⟨hm.raw.mapped hc hmap, hm.box.chg hc (fun e => hm.raw.map.ne_blk hm.box e.symm), hm.item.chg hc (fun e => hm.raw.map.ne_blk hm.item e.symm), (dev_map hm.dev hm.raw.map hm.raw.far hc).at_, own_chg hm.lost hc (own_no_map (W := W') hm.raw.map hm.lost),
    hm.chg.then hc (fun k hk e => .inr (by rcases hsp k (.inr (.inl e)) with h | h; exact h; omega))⟩
end
theorem sl_opn {G : Lg} {D : Dev} (h : (G.sl D).e = 0) : (G.sl D).G.opn = [] := by
  unfold Lg.sl at h ⊢
  split
  · rename_i h0; exact h0
  · rename_i h0
    rw [if_neg h0] at h
    split
    · rename_i h1; rw [if_pos h1] at h; simp at h
    · rename_i h1
      rw [if_neg h1] at h
      split
      · rename_i h2; rw [if_pos h2] at h; simp at h
      · rename_i h2
        rw [if_neg h2] at h
        split
        · rfl
        · rename_i h3; rw [if_neg h3] at h; exact absurd h h3

/-- blocks of other kinds are changed -/
theorem dev_ty {S : Nat → Prop} {N : Nat} {W W' : World} {h : DevH} {D : Dev} (hd : DevN N W h D) (hc : Chg S W W') (hS : ∀ k, k < W.heap.size → S k → ∃ cs T fz, W.heap[k]? = some (.cells cs T fz) ∧ T ≠ tDev ∧ T ≠ tPP ∧ T ≠ tPage ∧ T ≠ tU8) : DevN N W' h D := by
  refine hd.chg hc (fun e => ?_) (fun e => ?_) (fun e => ?_) (fun g cs T _ hT hb e => ?_)
  · obtain ⟨a, b, c, e', hb⟩ := hd.box
    obtain ⟨cs, T, fz, hg, h1, _⟩ := hS _ hb.lt e
    unfold Blk at hb; rw [hg] at hb; injection hb with hb; injection hb with _ e2; exact h1 e2
  · obtain ⟨ps, hb, _⟩ := hd.row
    obtain ⟨cs, T, fz, hg, _, h1, _⟩ := hS _ hb.lt e
    unfold Blk at hb; rw [hg] at hb; injection hb with hb; injection hb with _ e2; exact h1 e2
  · obtain ⟨es, hm, _⟩ := hd.map
    obtain ⟨cs, T, fz, hg, _⟩ := hS _ hm.lt e
    exact absurd rfl (hm.ne_blk hg)
  · obtain ⟨cs', T', fz, hg, _, _, h1, h2⟩ := hS _ hb.lt e
    unfold Blk at hb; rw [hg] at hb; injection hb with hb; injection hb with _ e2
    rcases hT with hT | hT
    · exact h1 (by rw [e2, hT])
    · exact h2 (by rw [e2, hT])
theorem own_cells_at {w : World} {base e size n : Nat} {v : Value} {xs : List Value} (ho : w.ownsRow base e size v n xs) {k : Nat} (hk : v.ownBlock = some k) : ∃ cs, w.heap[k]? = some (.cells cs e (0, 0)) := by
  rcases ho.2 with ⟨e1, _⟩ | ⟨g', cap, cur, e1, _, hg', _⟩
  · rw [e1] at hk; simp [Value.ownBlock] at hk
  · rw [e1] at hk
    have : g' = k := by simpa [Value.ownBlock] using hk
    subst this
    exact ⟨cur, hg'⟩

theorem LgPost.base {w w2 w' : World} {h : DevH} {t t' : LgH} {R : LgR} {v : Value} (hp : LgPost w2 h t R v t' w') (hc : Chg No w w2) : LgPost w h t R v t' w' :=
  ⟨own_base hp.lost hc.size, hp.dev, hp.log, (hc.mono (fun _ _ h => h.elim)).then hp.chg (fun _ _ h => h), hp.L, fun k hk => by rcases hp.own k hk with h | h; exact .inl h; exact .inr (Nat.le_trans hc.size h), fun k hk => by rcases hp.spot k hk with h | h; exact .inl h; exact .inr (Nat.le_trans hc.size h), hp.lostNo⟩
theorem foot_size {N : Nat} {w : World} {h : DevH} {D : Dev} (hd : DevN N w h D) {k : Nat} (hk : h.foot k) : k < w.heap.size := by
  rcases hk with rfl | rfl | rfl
  · obtain ⟨a, b, c, e, hb⟩ := hd.box; exact hb.lt
  · obtain ⟨ps, hb, _⟩ := hd.row; exact hb.lt
  · obtain ⟨es, hm, _⟩ := hd.map; exact hm.lt
theorem LgAt.spot_own {w : World} {h : DevH} {t : LgH} {G : Lg} (hl : LgAt w h t G) {k : Nat} (hk : t.spot k) : t.own k := by
  rcases hk with rfl | rfl | hk | hk
  · exact hl.ownL
  · exact hl.ownM
  · exact hl.ownR k hk
  · exact hl.ownO k hk

theorem PutMid.done {w W1 w9 : World} {h : DevH} {t t2 : LgH} {G2 : Lg} {D2 : Dev} {v V9 : Value} {lost : List Item} {ib : Nat} {x : Item} (hm : PutMid w h t t2 G2 D2 v lost ib x (aset G2.keys x.key ⟨true, 0, G2.opn.length⟩) W1)
    (ho9 : w9.ownsRow 0 tItem 5 V9 (G2.opn.length + 1) (its G2.opn ++ itc x)) (hc9 : Chg (fun k => t2.O.ownBlock = some k) W1 w9) (hb9 : V9.ownBlock = t2.O.ownBlock ∨ V9.ownBlock = some (W1.heap.size + 1))
    (hok : (G2.add x).Ok) (hL : t2.L = t.L) (hown : ∀ k, t2.own k → t.own k ∨ w.heap.size ≤ k) (hsp : ∀ k, t2.spot k → t.spot k ∨ w.heap.size ≤ k) (hno : ∀ k, v.ownBlock = some k → ¬ t2.own k) :
    LgPost w h t ⟨G2.add x, D2, lost, 0⟩ v { t2 with O := V9, own := fun k => t2.own k ∨ V9.ownBlock = some k } ((w9.setCell ⟨t2.L, 4, none⟩ V9).setCell ⟨t2.L, 5, none⟩ (.int .i64 (isum (G2.opn ++ [x]) : Nat))) := by
  have hsz : w.heap.size ≤ W1.heap.size := hm.chg.size
  have hLne : ¬ t2.O.ownBlock = some t2.L := fun e => own_other hm.raw.opn hm.box (by decide) e
  have hbox9 := hm.box.chg hc9 hLne
  have hc : Chg (fun j => j = t2.L) w9 ((w9.setCell ⟨t2.L, 4, none⟩ V9).setCell ⟨t2.L, 5, none⟩ (.int .i64 (isum (G2.opn ++ [x]) : Nat))) := Chg.setCell (S := fun j => j = t2.L) (Chg.setCell (S := fun j => j = t2.L) (Chg.refl _ _) (.inl rfl) _) (.inl rfl) _
  have hb := (hbox9.set_ 4 V9).set_ 5 (.int .i64 (isum (G2.opn ++ [x]) : Nat))
  have ho9' : w9.ownsRow 0 tItem 5 V9 (G2.opn ++ [x]).length (its (G2.opn ++ [x])) := by rw [its_append, its_one, List.length_append]; exact ho9
  have hraw := (hm.raw.grow (t := t2) (opn' := G2.opn ++ [x]) hc9 ho9' (by rcases hb9 with e | e; exact .inl e; exact .inr (fun k hk => by rw [e] at hk; injection hk with hk; omega))).boxed hc ⟨_, hb⟩
  have hvL : ∀ k, v.ownBlock = some k → ¬ k = t2.L := fun k hk e => hno k hk (by rw [e]; exact hm.raw.ownL)
  have hvO : ∀ k, v.ownBlock = some k → ¬ t2.O.ownBlock = some k := fun k hk e => hno k hk (hm.raw.ownO k e)
  refine ⟨own_chg (own_chg hm.lost hc9 hvO) hc hvL, ?_, ?_, ?_, hL, ?_, ?_, ?_⟩
  · have hd9 : DevN W1.heap.size w9 h D2 := dev_ty hm.dev hc9 (fun k _ e => by obtain ⟨cs, hg⟩ := own_cells_at hm.raw.opn e; exact ⟨cs, tItem, _, hg, by decide, by decide, by decide, by decide⟩)
    exact (dev_ty hd9 hc (fun k _ e => by subst e; exact ⟨_, tLog, _, hbox9, by decide, by decide, by decide, by decide⟩)).at_
  · refine LgRaw.at_ (G := G2.add x) hraw ?_ hok
    have e : boxOf h { t2 with O := V9, own := fun k => t2.own k ∨ V9.ownBlock = some k } (G2.add x) = ((boxOf h t2 G2).setIfInBounds 4 V9).setIfInBounds 5 (.int .i64 (isum (G2.opn ++ [x]) : Nat)) := by
      simp [boxOf, Lg.add]
    rw [e]; exact hb
  · refine (hm.chg.then hc9 (fun k hk e => ?_)).then hc (fun k hk e => ?_)
    · rcases hsp k (.inr (.inr (.inr e))) with h | h
      · exact .inr h
      · omega
    · rcases hsp k (.inl e) with h | h
      · exact .inr h
      · omega
  · rintro k (hk | hk)
    · exact hown k hk
    · rcases hb9 with e | e
      · rw [e] at hk; exact hown k (hm.raw.ownO k hk)
      · rw [e] at hk; injection hk with hk; right; omega
  · rintro k (hk | hk | hk | hk)
    · exact hsp k (.inl hk)
    · exact hsp k (.inr (.inl hk))
    · exact hsp k (.inr (.inr (.inl hk)))
    · rcases hb9 with e | e
      · exact hsp k (.inr (.inr (.inr (by rw [← e]; exact hk))))
      · have hk' : V9.ownBlock = some k := hk
        rw [e] at hk'; injection hk' with hk'; right; omega
  · rintro k hk (ho | ho)
    · exact hno k hk ho
    · rcases hb9 with e | e
      · rw [e] at ho; exact hvO k hk ho
      · rw [e] at ho; injection ho with ho
        have := (hm.lost.lt k hk).2; omega

section
variable {N : Nat} {w : World} {h : DevH} {t : LgH} {G : Lg} {D : Dev}
set_option maxRecDepth 100000 in
set_option maxHeartbeats 8000000 in
theorem gput_calls (hd : DevN N w h D) (hl : LgAt w h t G) (x : Item) (hk : x.key.size ≤ 140737488351232) (hv : x.val.size ≤ 140737488351232) :
    Calls Tryz.prog 45 #[.pointer (some ⟨t.L, 0, none⟩), itemV x] w fun e w' => ∃ v t', e = .returned (.tuple #[v, .int .i64 (G.put D x).e]) ∧ LgPost w h t (G.put D x) v t' w' := by
  have HD := Lib.hid hd
  have HL := Lib.hid hl
  have hll := hl.lt _ hl.ownL
  have HGOOD := fun W => Lib.hid (good_calls x W)
  have HSIZE := fun W => Lib.hid (size_calls x W hk hv)
  have HSEAL := fun W => Lib.hid (fun hc : Chg No w W => seal_calls (hd.chgNo hc) (hl.chgNo hc))
  have hszb : x.size ≤ 281474976702496 := by unfold Item.size; omega
  have hsum := hl.ok.sum
  obtain ⟨sz, hsz⟩ : ∃ sz, sz = x.size := ⟨_, rfl⟩
  have hP : Hid (G.put D x = if x.good && decide (sz ≤ 1472) then (if isum G.opn + sz ≤ 1472 then ⟨G.add x, D, [], 0⟩ else if (G.sl D).e = 0 then ⟨(G.sl D).G.add x, (G.sl D).D, (G.sl D).lost, 0⟩ else G.sl D) else ⟨G, D, [], 1⟩) := by show _ = _; unfold Lg.put Lg.fits; rw [hsz]
  rw [← hsz] at HSIZE hszb
  have HSZ := Lib.hid hsz
  have hbox := Blk.new w tItem (itc x).toArray
  have HBOX := Lib.hid hbox
  have hstay : ∀ W, Chg No w W → LgPost w h t ⟨G, D, [], 1⟩ (.slice none 0 0) t W := fun W hc => ⟨World.ownsRow_nil _ _ _ _, (HD.out.chgNo hc).at_, HL.out.chgNo hc, hc.mono (fun _ _ h => h.elim), rfl, fun k hk => .inl hk, fun k hk => .inl hk, fun k hk => by simp [Value.ownBlock] at hk⟩
  have HSTAY := Lib.hid hstay
  clear hstay hd hl hk hv hsz hbox
  cases hg : x.good with
  | false =>
    rw [hg] at HGOOD
    have HS : Hid (G.put D x = ⟨G, D, [], 1⟩) := by show _ = _; rw [hP.out, hg]; rfl
    clear hP hg HSEAL
    go_enter Tryz.func45, Tryz.ntmps45
    go_wp2_with fail
    refine (HSIZE _).out.mono ?_
    rintro e w1 ⟨rfl, hc1⟩
    have HC1 := Lib.hid hc1
    have HB1 := Lib.hid (HBOX.out.chg hc1 (fun h => h))
    have a0 := HB1.out.cell 0
    have a1 := HB1.out.cell 1
    have a2 := HB1.out.cell 2
    have a3 := HB1.out.cell 3
    have a4 := HB1.out.cell 4
    simp [itc] at a0 a1 a2 a3 a4
    clear hc1 HSIZE
    go_wp2_with fail
    refine (HGOOD _).out.mono ?_
    rintro e w2 ⟨rfl, hc2⟩
    have HC2 := Lib.hid hc2
    clear hc2
    go_wp2
    go_ret2
    exact ⟨_, t, by rw [HS.out]; rfl, by rw [HS.out]; exact HSTAY.out _ (((Chg.refl _ _).alloc _).trans (HC1.out.trans HC2.out))⟩
  | true =>
    rw [hg] at HGOOD
    by_cases hfit : sz ≤ 1472
    rotate_left
    · have HS : Hid (G.put D x = ⟨G, D, [], 1⟩) := by show _ = _; rw [hP.out, hg, decide_eq_false hfit]; rfl
      have hb : decide ((1472 : Int) < (sz : Int)) = true := by simp; omega
      clear hP hg HSEAL
      go_enter Tryz.func45, Tryz.ntmps45
      go_wp2_with fail
      refine (HSIZE _).out.mono ?_
      rintro e w1 ⟨rfl, hc1⟩
      have HC1 := Lib.hid hc1
      have HB1 := Lib.hid (HBOX.out.chg hc1 (fun h => h))
      have a0 := HB1.out.cell 0
      have a1 := HB1.out.cell 1
      have a2 := HB1.out.cell 2
      have a3 := HB1.out.cell 3
      have a4 := HB1.out.cell 4
      simp [itc] at a0 a1 a2 a3 a4
      clear hc1 HSIZE
      go_wp2_with fail
      refine (HGOOD _).out.mono ?_
      rintro e w2 ⟨rfl, hc2⟩
      have HC2 := Lib.hid hc2
      clear hc2
      go_wp2
      go_ret2
      exact ⟨_, t, by rw [HS.out]; rfl, by rw [HS.out]; exact HSTAY.out _ (((Chg.refl _ _).alloc _).trans (HC1.out.trans HC2.out))⟩
    · have hb : decide ((1472 : Int) < (sz : Int)) = false := by simp; omega
      have hb' : ¬ (1472 : Int) < (sz : Int) := by omega
      have HP2 : Hid (G.put D x = if isum G.opn + sz ≤ 1472 then ⟨G.add x, D, [], 0⟩ else if (G.sl D).e = 0 then ⟨(G.sl D).G.add x, (G.sl D).D, (G.sl D).lost, 0⟩ else G.sl D) := by
        show _ = _
        rw [hP.out, hg, decide_eq_true hfit]; rfl
      have HGX := Lib.hid hg
      obtain ⟨su, hsu⟩ : ∃ su, su = isum G.opn := ⟨_, rfl⟩
      rw [← hsu] at HP2 hsum
      have HSU := Lib.hid hsu
      clear hP hg hsu
      go_enter Tryz.func45, Tryz.ntmps45
      go_wp2_with fail
      refine (HSIZE _).out.mono ?_
      rintro e w1 ⟨rfl, hc1⟩
      have HC1 := Lib.hid hc1
      have HB1 := Lib.hid (HBOX.out.chg hc1 (fun h => h))
      have a0 := HB1.out.cell 0
      have a1 := HB1.out.cell 1
      have a2 := HB1.out.cell 2
      have a3 := HB1.out.cell 3
      have a4 := HB1.out.cell 4
      simp [itc] at a0 a1 a2 a3 a4
      clear hc1 HSIZE
      go_wp2_with fail
      refine (HGOOD _).out.mono ?_
      rintro e w2 ⟨rfl, hc2⟩
      have HC2 : Hid (Chg No w w2) := ((Chg.refl _ _).alloc _).trans (HC1.out.trans hc2)
      have HB2 := Lib.hid (HB1.out.chg hc2 (fun h => h))
      have d5 := (HL.out.chgNo HC2.out).box.cell 5
      simp at d5
      rw [← HSU.out] at d5
      clear hc2 HGOOD a0 a1 a2 a3 a4 HC1 HB1
      have hwr : IntKind.i64.wrap ((su : Int) + (sz : Int)) = (su : Int) + (sz : Int) := IntWalk.i64_in _ (by omega)
      by_cases hroom : su + sz ≤ 1472
      · have hc : decide ((1472 : Int) < (su : Int) + (sz : Int)) = false := by simp; omega
        have hc' : ¬ (1472 : Int) < (su : Int) + (sz : Int) := by omega
        have HR : Hid (G.put D x = ⟨G.add x, D, [], 0⟩) := by show _ = _; rw [HP2.out, if_pos hroom]
        have HROOM : Hid (isum G.opn + x.size ≤ 1472) := by show _ ≤ _; rw [← HSU.out, ← HSZ.out]; exact hroom
        have HM0 : Hid (PutMid w h t t G D (.slice none 0 0) [] w.heap.size x G.keys w2) := ⟨(HL.out.chgNo HC2.out).raw, (HL.out.chgNo HC2.out).box, HB2.out, (HD.out.chgNo HC2.out).at_, World.ownsRow_nil _ _ _ _, HC2.out.mono (fun _ _ h => h.elim)⟩
        have HL2 := Lib.hid (HL.out.chgNo HC2.out)
        have HIO : Hid (∀ k, t.O.ownBlock = some k → k ≠ w.heap.size) := fun k hk e => by have := HL.out.lt k (HL.out.ownO k hk); omega
        have HW64 : Hid (wrap64 ((isum G.opn : Int) + (sz : Int)) = ((isum (G.opn ++ [x]) : Nat) : Int)) := by show _ = _; rw [isum_app, ← HSZ.out, ← HSU.out, IntWalk.wrap64_in _ (by omega)]; omega
        have HOK : Hid ((G.add x).Ok) := HL.out.ok.add HGX.out HROOM.out
        have HLE : Hid (t.L = t.L) := rfl
        have HOWN2 : Hid (∀ k, t.own k → t.own k ∨ w.heap.size ≤ k) := fun k hk => .inl hk
        have HVN : Hid (∀ k, (Value.slice none 0 0).ownBlock = some k → ¬ t.own k) := fun k hk => by simp [Value.ownBlock] at hk
        have HSP : Hid (∀ k, t.spot k → t.spot k ∨ w.heap.size ≤ k) := fun k hk => .inl hk
        clear hroom HP2 HSEAL
        have z4 := HM0.out.box.cell 4
        have z5 := HM0.out.box.cell 5
        have z7 := HM0.out.box.cell 7
        simp [boxOf] at z4 z5 z7
        have hno2 := HL2.out.ok.len
        obtain ⟨Ao, co, hO, hnco, hrdo⟩ := HL2.out.openAs
        rw [hO] at z4
        obtain ⟨no, hno⟩ : ∃ no, no = G.opn.length := ⟨_, rfl⟩
        rw [← hno] at z4 hno2
        have HNO := Lib.hid hno
        have a0 := HM0.out.item.cell 0
        simp [itc] at a0
        obtain ⟨o, hrun, hmap⟩ := (HM0.out.chgNo ((Chg.refl _ _).drew)).raw.map.update (P := Tryz.prog) (keyLaw_string (Tryz.underlying9)) Tryz.underlying128 x.key (plv ⟨true, 0, no⟩)
        rw [aset_amap] at hmap
        simp only [plv, Int.natCast_zero] at hrun
        have HM1 := Lib.hid ((HM0.out.chgNo ((Chg.refl _ _).drew)).mapped HSP.out (chg_setBlock _ _ _) hmap)
        clear hmap hO hnco hrdo hno
        go_wp2_with fail
        go_region
        go_wp2_with fail
        refine wp_forget (fun W => PutMid w h t t G D (.slice none 0 0) [] w.heap.size x (aset G.keys x.key ⟨true, 0, no⟩) W) HM1.out (fun W1 hW1 => ?_)
        have HM1' := Lib.hid hW1
        have y4 := hW1.box.cell 4
        have y5 := hW1.box.cell 5
        simp [boxOf] at y4 y5
        obtain ⟨Ao, co, hO, hnco, hrdo⟩ := HL2.out.openAs
        rw [hO, ← HNO.out] at y4
        have b0 := hW1.item.cell 0
        have b1 := hW1.item.cell 1
        have b2 := hW1.item.cell 2
        have b3 := hW1.item.cell 3
        have b4 := hW1.item.cell 4
        simp [itc] at b0 b1 b2 b3 b4
        have HOO := Lib.hid hO
        have HLI : Hid (t.L ≠ w.heap.size) := hW1.box.ne_ hW1.item (by decide)
        have hil1 := hW1.box.lt
        have hil2 := hW1.item.lt
        have hown1 : W1.ownsRow 0 tItem 5 (.slice Ao no co) no (its G.opn) := by have h1 := hW1.raw.opn; simp only at h1; rw [hO, ← HNO.out] at h1; exact h1
        have HOWN := Lib.hid hown1
        have h63 : no + 1 ≤ maxLen := by simp only [maxLen]; omega
        have hby : (no + 1) * 56 ≤ 140737488355328 := by omega
        clear hrun z4 z5 z7 a0 hW1 hO hnco hrdo hown1
        (go_region_law
          ((have hr0 := rd_item W1.drew x
            refine step_app _ rfl (.tmp 50) (.tmp 52) tItems rfl tItem Tryz.underlying46 ti_item rfl (by omega) 0 (.slice Ao no co) no (its G.opn) rfl (HOWN.out.alloc _) tItem _ 1 1 (itc x) rfl (rd_item _ x) (itc_one_cell x) h63 hby (Nat.zero_le _) ?_
            intro v9 w9 ho9 hg9 hb9
            obtain ⟨A9, c9, rfl, hnc9, hrd9⟩ := own_slice ho9
            clear hrd9
            have HO9 := Lib.hid ho9
            have HB9 := Lib.hid hb9
            have HG9 : Hid (Chg (fun k => Value.ownBlock (.slice Ao no co) = some k) W1 w9) := Chg.grown (by (repeat (first | (with_reducible exact Chg.refl _ _) | (with_reducible assumption) | (with_reducible refine Chg.drewN ?_ _) | (with_reducible refine Chg.drew ?_) | (with_reducible refine Chg.alloc ?_ _) | (with_reducible refine Chg.setCell ?_ (by first | (left; simp [DevH.foot]; done) | (right; simp; done) | (right; simp; omega)) _)))) hg9 (fun k' hk' => .inl hk')
            clear ho9 hg9 hb9
            have hbi := HM1'.out.item.chg HG9.out (fun e => HIO.out _ (by rw [HOO.out, ← HNO.out]; exact e) rfl)
            have e0 := hbi.cell 0
            have e1 := hbi.cell 1
            have e2 := hbi.cell 2
            have e3 := hbi.cell 3
            have e4 := hbi.cell 4
            simp [itc] at e0 e1 e2 e3 e4
            have hbb := HM1'.out.box.chg HG9.out (fun e => own_other HOWN.out HM1'.out.box (by decide) e)
            have q4 := hbb.cell 4
            have q5 := hbb.cell 5
            have f4 := hbb.frozen 4
            have f5 := hbb.frozen 5
            have HBB := Lib.hid hbb
            simp [boxOf] at q4 q5
            have hLi : t.L ≠ w.heap.size := HLI.out
            have hiL : w.heap.size ≠ t.L := fun e => HLI.out e.symm
            clear hbi hbb)))
        all_goals
          go_wp2
          go_ret2
          refine ⟨(.slice none 0 0), { t with O := .slice A9 (no + 1) c9, own := fun k => t.own k ∨ (Value.slice A9 (no + 1) c9).ownBlock = some k }, by rw [HR.out]; rfl, ?_⟩
          rw [HR.out, HW64.out]
          exact PutMid.done (t := t) (HNO.out ▸ HM1'.out) (HNO.out ▸ HO9.out) (by have := HG9.out; rw [HOO.out, ← HNO.out]; exact this) (by rcases HB9.out with e | e; exact .inl (by rw [HOO.out, ← HNO.out]; exact e); exact .inr (by rw [e]; simp)) HOK.out (by first | rfl | exact HLE.out) HOWN2.out HSP.out HVN.out
      · have hc : decide ((1472 : Int) < (su : Int) + (sz : Int)) = true := by simp; omega
        have hc' : (1472 : Int) < (su : Int) + (sz : Int) := by omega
        have HR1 : Hid (G.put D x = if (G.sl D).e = 0 then ⟨(G.sl D).G.add x, (G.sl D).D, (G.sl D).lost, 0⟩ else G.sl D) := by show _ = _; rw [HP2.out, if_neg hroom]
        have HOPN : Hid ((G.sl D).e = 0 → (G.sl D).G.opn = []) := sl_opn
        clear hroom HP2
        go_wp2_with fail
        refine ((HSEAL _).out HC2.out).mono ?_
        rintro e w3 ⟨v, t2, rfl, hpost⟩
        have HPOST := Lib.hid (hpost.base HC2.out)
        have HB3 := Lib.hid (HB2.out.chg hpost.chg (by
          rintro (hf | hs)
          · have := foot_size HD.out hf; omega
          · have := HL.out.lt _ (HL.out.spot_own hs); omega))
        have HIB : Hid (∀ k, t2.own k → k ≠ w.heap.size) := fun k hk e => by
          have h1 := HB2.out.lt
          rcases hpost.own k hk with h | h
          · have := HL.out.lt k h; omega
          · omega
        clear hpost HSEAL
        obtain ⟨s, hs⟩ : ∃ s, s = G.sl D := ⟨_, rfl⟩
        rw [← hs] at HPOST HR1 HOPN ⊢
        clear hs
        obtain ⟨G2, D2, lost, er⟩ := s
        simp only at HPOST HR1 HOPN ⊢
        by_cases her : er = 0
        rotate_left
        · have hb : ((er : Int) != 0) = true := by simpa using her
          have HR : Hid (G.put D x = ⟨G2, D2, lost, er⟩) := by show _ = _; rw [HR1.out, if_neg her]
          clear HR1 HOPN
          go_wp2
          go_ret2
          exact ⟨v, t2, by rw [HR.out]; rfl, by rw [HR.out]; exact HPOST.out⟩
        subst her
        have HR : Hid (G.put D x = ⟨G2.add x, D2, lost, 0⟩) := by show _ = _; rw [HR1.out, if_pos rfl]
        have hop := HOPN.out rfl
        have HROOM : Hid (isum G2.opn + x.size ≤ 1472) := by show _ ≤ _; rw [hop, ← HSZ.out]; simp [isum]; exact hfit
        have HOK : Hid ((G2.add x).Ok) := HPOST.out.log.ok.add HGX.out HROOM.out
        have HM0 : Hid (PutMid w h t t2 G2 D2 v lost w.heap.size x G2.keys w3) := ⟨HPOST.out.log.raw, HPOST.out.log.box, HB3.out, HPOST.out.dev, HPOST.out.lost, HPOST.out.chg⟩
        have HL2 := Lib.hid HPOST.out.log
        have HW64 : Hid (wrap64 ((isum G2.opn : Int) + (sz : Int)) = ((isum (G2.opn ++ [x]) : Nat) : Int)) := by show _ = _; rw [isum_app, ← HSZ.out, hop, IntWalk.wrap64_in _ (by simp [isum]; omega)]; omega
        have HIO : Hid (∀ k, t2.O.ownBlock = some k → k ≠ w.heap.size) := fun k hk => HIB.out k (HPOST.out.log.ownO k hk)
        have HLE : Hid (t2.L = t.L) := HPOST.out.L
        have HOWN2 : Hid (∀ k, t2.own k → t.own k ∨ w.heap.size ≤ k) := HPOST.out.own
        have HVN : Hid (∀ k, v.ownBlock = some k → ¬ t2.own k) := HPOST.out.lostNo
        have HSP : Hid (∀ k, t2.spot k → t.spot k ∨ w.heap.size ≤ k) := HPOST.out.spot
        have hLL := HPOST.out.L
        rw [← hLL]
        clear HR1 HOPN hop d5 hLL
        have z4 := HM0.out.box.cell 4
        have z5 := HM0.out.box.cell 5
        have z7 := HM0.out.box.cell 7
        simp [boxOf] at z4 z5 z7
        have hno2 := HL2.out.ok.len
        obtain ⟨Ao, co, hO, hnco, hrdo⟩ := HL2.out.openAs
        rw [hO] at z4
        obtain ⟨no, hno⟩ : ∃ no, no = G2.opn.length := ⟨_, rfl⟩
        rw [← hno] at z4 hno2
        have HNO := Lib.hid hno
        have a0 := HM0.out.item.cell 0
        simp [itc] at a0
        obtain ⟨o, hrun, hmap⟩ := (HM0.out.chgNo ((Chg.refl _ _).drew)).raw.map.update (P := Tryz.prog) (keyLaw_string (Tryz.underlying9)) Tryz.underlying128 x.key (plv ⟨true, 0, no⟩)
        rw [aset_amap] at hmap
        simp only [plv, Int.natCast_zero] at hrun
        have HM1 := Lib.hid ((HM0.out.chgNo ((Chg.refl _ _).drew)).mapped HSP.out (chg_setBlock _ _ _) hmap)
        clear hmap hO hnco hrdo hno
        go_wp2_with fail
        go_region
        go_wp2_with fail
        refine wp_forget (fun W => PutMid w h t t2 G2 D2 v lost w.heap.size x (aset G2.keys x.key ⟨true, 0, no⟩) W) HM1.out (fun W1 hW1 => ?_)
        have HM1' := Lib.hid hW1
        have y4 := hW1.box.cell 4
        have y5 := hW1.box.cell 5
        simp [boxOf] at y4 y5
        obtain ⟨Ao, co, hO, hnco, hrdo⟩ := HL2.out.openAs
        rw [hO, ← HNO.out] at y4
        have b0 := hW1.item.cell 0
        have b1 := hW1.item.cell 1
        have b2 := hW1.item.cell 2
        have b3 := hW1.item.cell 3
        have b4 := hW1.item.cell 4
        simp [itc] at b0 b1 b2 b3 b4
        have HOO := Lib.hid hO
        have HLI : Hid (t2.L ≠ w.heap.size) := hW1.box.ne_ hW1.item (by decide)
        have hil1 := hW1.box.lt
        have hil2 := hW1.item.lt
        have hown1 : W1.ownsRow 0 tItem 5 (.slice Ao no co) no (its G2.opn) := by have h1 := hW1.raw.opn; simp only at h1; rw [hO, ← HNO.out] at h1; exact h1
        have HOWN := Lib.hid hown1
        have h63 : no + 1 ≤ maxLen := by simp only [maxLen]; omega
        have hby : (no + 1) * 56 ≤ 140737488355328 := by omega
        clear hrun z4 z5 z7 a0 hW1 hO hnco hrdo hown1
        first
        | (go_region_law
          ((have hr0 := rd_item W1.drew x
            refine step_app _ rfl (.tmp 50) (.tmp 52) tItems rfl tItem Tryz.underlying46 ti_item rfl (by omega) 0 (.slice Ao no co) no (its G2.opn) rfl (HOWN.out.alloc _) tItem _ 1 1 (itc x) rfl (rd_item _ x) (itc_one_cell x) h63 hby (Nat.zero_le _) ?_
            intro v9 w9 ho9 hg9 hb9
            obtain ⟨A9, c9, rfl, hnc9, hrd9⟩ := own_slice ho9
            clear hrd9
            have HO9 := Lib.hid ho9
            have HB9 := Lib.hid hb9
            have HG9 : Hid (Chg (fun k => Value.ownBlock (.slice Ao no co) = some k) W1 w9) := Chg.grown (by (repeat (first | (with_reducible exact Chg.refl _ _) | (with_reducible assumption) | (with_reducible refine Chg.drewN ?_ _) | (with_reducible refine Chg.drew ?_) | (with_reducible refine Chg.alloc ?_ _) | (with_reducible refine Chg.setCell ?_ (by first | (left; simp [DevH.foot]; done) | (right; simp; done) | (right; simp; omega)) _)))) hg9 (fun k' hk' => .inl hk')
            clear ho9 hg9 hb9
            have hbi := HM1'.out.item.chg HG9.out (fun e => HIO.out _ (by rw [HOO.out, ← HNO.out]; exact e) rfl)
            have e0 := hbi.cell 0
            have e1 := hbi.cell 1
            have e2 := hbi.cell 2
            have e3 := hbi.cell 3
            have e4 := hbi.cell 4
            simp [itc] at e0 e1 e2 e3 e4
            have hbb := HM1'.out.box.chg HG9.out (fun e => own_other HOWN.out HM1'.out.box (by decide) e)
            have q4 := hbb.cell 4
            have q5 := hbb.cell 5
            have f4 := hbb.frozen 4
            have f5 := hbb.frozen 5
            have HBB := Lib.hid hbb
            simp [boxOf] at q4 q5
            have hLi : t2.L ≠ w.heap.size := HLI.out
            have hiL : w.heap.size ≠ t2.L := fun e => HLI.out e.symm
            clear hbi hbb)))
        | fail "region"
        all_goals
          go_wp2
          go_ret2
          refine ⟨v, { t2 with O := .slice A9 (no + 1) c9, own := fun k => t2.own k ∨ (Value.slice A9 (no + 1) c9).ownBlock = some k }, by rw [HR.out]; rfl, ?_⟩
          rw [HR.out, HW64.out]
          exact PutMid.done (t2 := t2) (HNO.out ▸ HM1'.out) (HNO.out ▸ HO9.out) (by have := HG9.out; rw [HOO.out, ← HNO.out]; exact this) (by rcases HB9.out with e | e; exact .inl (by rw [HOO.out, ← HNO.out]; exact e); exact .inr (by rw [e]; simp)) HOK.out (by first | rfl | exact HLE.out) HOWN2.out HSP.out HVN.out
end
end Go.Proofs.YtplpbbdakihnfaaGreat
end

/- The journal in memory; note, Begin, Gone, Room, walked. -/
section
namespace Go.Proofs.YtplpbbdakihnfaaGreat
open Go.RowKit
open Go.ChangeMaps (setBlock)
attribute [local go_sem ↓] Go.wp_at_zero Go.wp_at_succ
set_option linter.unusedSimpArgs false
set_option linter.unusedVariables false

abbrev tJn : TypeId := 117
abbrev tJm : TypeId := 115
abbrev ukey : Int → Value := fun n => .int .u64 n
def jes (ms : Marks) : List (Int × Value) := ms.map fun p => (p.1, .int .u64 p.2)
theorem aget_jes (ms : Marks) (k : Int) : aget (jes ms) k = (aget ms k).map fun v => .int .u64 v := by
  induction ms with
  | nil => rfl
  | cons p r ih =>
    simp only [jes, List.map_cons, aget] at ih ⊢
    split
    · rfl
    · exact ih
theorem aset_jes (ms : Marks) (k : Int) (v : Nat) : aset (jes ms) k (.int .u64 v) = jes (aset ms k v) := by
  induction ms with
  | nil => rfl
  | cons p r ih =>
    simp only [jes, List.map_cons, aset] at ih ⊢
    split
    · rfl
    · rw [List.map_cons, ih]
structure JnH where
  J : Nat
  M : Nat
structure JnAt (w : World) (h : DevH) (t : JnH) (J : Jn) : Prop where
  box : Blk w t.J tJn #[.pointer (some ⟨h.d, 0, none⟩), .int .i64 J.losses, .int .i64 J.first, .int .i64 J.pages, .int .u64 J.gen, .int .i64 J.used, .map (some t.M)]
  map : MapIs ukey w t.M (jes J.marks)
  fit : J.first + J.pages ≤ 4096
  used : J.used ≤ J.pages
  gen : J.gen < 18446744073709551616
  far : t.M ≠ h.M
def noteOf (ms : Marks) (kx vx : Nat) (o : Option Nat) : Marks := match o with
  | some v => if v < vx then aset ms (kx : Int) vx else ms
  | none => aset ms (kx : Int) vx
def goneOf (o : Option Nat) (ver : Nat) : Bool := match o with
  | some v => decide (ver ≤ v)
  | none => false
def JnH.own (t : JnH) : Nat → Prop := fun k => k = t.J ∨ k = t.M
section
variable {S : Nat → Prop} {w w' : World} {h : DevH} {t : JnH} {J : Jn}
theorem JnAt.chg (hj : JnAt w h t J) (hc : Chg S w w') (hn : ∀ k, t.own k → ¬ S k) : JnAt w' h t J :=
  { hj with box := hj.box.chg hc (hn _ (.inl rfl)), map := hj.map.chg hc (hn _ (.inr rfl)) }
theorem JnAt.chgNo (hj : JnAt w h t J) (hc : Chg No w w') : JnAt w' h t J := hj.chg hc (fun _ _ h => h)
theorem JnAt.foot {N : Nat} {D : Dev} (hj : JnAt w h t J) (hd : DevN N w h D) (hc : Chg h.foot w w') : JnAt w' h t J := by
  refine hj.chg hc (fun k hk hf => ?_)
  rcases hk with rfl | rfl
  · exact hd.not_foot hj.box (by decide) (by decide) hf
  · rcases hf with hf | hf | hf
    · obtain ⟨a, b, c, e, hb⟩ := hd.box
      exact hj.map.ne_blk hb hf
    · obtain ⟨ps, hb, _⟩ := hd.row
      exact hj.map.ne_blk hb hf
    · exact hj.far hf
theorem JnAt.mapped (hj : JnAt w h t J) (hc : Chg (fun k => k = t.M) w w') {ms : Marks} (hm : MapIs ukey w' t.M (jes ms)) : JnAt w' h t { J with marks := ms } :=
  ⟨hj.box.chg hc (fun e => hj.map.ne_blk hj.box e.symm), hm, hj.fit, hj.used, hj.gen, hj.far⟩
theorem zero_u64 (W : World) : (zeroValue 28).run Tryz.prog W = .ok (.int .u64 0) W := by kernel_rfl
theorem look_jn {ms : Marks} {M : Nat} (hm : MapIs ukey w M (jes ms)) (k : Int) : (Instr.lookup tJm (.map (some M)) (.int .u64 k) true).run Tryz.prog w = .ok (.tuple #[.int .u64 ((aget ms k).getD 0 : Nat), .bool (aget ms k).isSome]) w := by
  have := hm.lookup (P := Tryz.prog) (keyLaw_int (Tryz.underlying28)) Tryz.underlying115 (zero_u64 w) k true
  rw [aget_jes] at this
  rw [if_pos rfl] at this
  cases hk : aget ms k <;> rw [hk] at this <;> exact this

set_option maxRecDepth 100000 in
set_option maxHeartbeats 4000000 in
theorem gone_calls (hj : JnAt w h t J) (key ver : Nat) :
    Calls Tryz.prog 78 #[.pointer (some ⟨t.J, 0, none⟩), .int .u64 key, .int .u64 ver] w fun e w' => e = .returned (.bool (J.gone key ver)) ∧ Chg No w w' := by
  have c6 := hj.box.cell 6
  simp at c6
  have hlk : ∀ n, (Instr.lookup tJm (.map (some t.M)) (.int .u64 key) true).run Tryz.prog (w.drewN n) = .ok (.tuple #[.int .u64 ((aget J.marks (key : Int)).getD 0 : Nat), .bool (aget J.marks (key : Int)).isSome]) (w.drewN n) := fun n => look_jn (hj.map.drewN n) _
  have hlk0 : (Instr.lookup tJm (.map (some t.M)) (.int .u64 key) true).run Tryz.prog w = .ok (.tuple #[.int .u64 ((aget J.marks (key : Int)).getD 0 : Nat), .bool (aget J.marks (key : Int)).isSome]) w := look_jn hj.map _
  have HG : Hid (J.gone key ver = goneOf (aget J.marks (key : Int)) ver) := rfl
  obtain ⟨o, ho⟩ : ∃ o, o = aget J.marks (key : Int) := ⟨_, rfl⟩
  rw [← ho] at hlk hlk0 HG
  clear ho hj
  cases o with
  | none =>
    rw [HG.out, show goneOf none ver = false from rfl]
    go_enter Tryz.func78, Tryz.ntmps78
    go_wp2
    go_ret
    exact ⟨rfl, by (repeat (first | (with_reducible exact Chg.refl _ _) | (with_reducible assumption) | (with_reducible refine Chg.drewN ?_ _) | (with_reducible refine Chg.drew ?_) | (with_reducible refine Chg.alloc ?_ _) | (with_reducible refine Chg.setCell ?_ (by first | (left; simp [DevH.foot]; done) | (right; simp; done) | (right; simp; omega)) _)))⟩
  | some v =>
    rw [HG.out]
    by_cases hv : ver ≤ v
    · have hvi : (ver : Int) ≤ (v : Int) := by omega
      rw [show goneOf (some v) ver = true from decide_eq_true hv]
      go_enter Tryz.func78, Tryz.ntmps78
      go_wp2
      go_ret
      exact ⟨rfl, by (repeat (first | (with_reducible exact Chg.refl _ _) | (with_reducible assumption) | (with_reducible refine Chg.drewN ?_ _) | (with_reducible refine Chg.drew ?_) | (with_reducible refine Chg.alloc ?_ _) | (with_reducible refine Chg.setCell ?_ (by first | (left; simp [DevH.foot]; done) | (right; simp; done) | (right; simp; omega)) _)))⟩
    · have hvi : ¬ (ver : Int) ≤ (v : Int) := by omega
      rw [show goneOf (some v) ver = false from decide_eq_false hv]
      go_enter Tryz.func78, Tryz.ntmps78
      go_wp2
      go_ret
      exact ⟨rfl, by (repeat (first | (with_reducible exact Chg.refl _ _) | (with_reducible assumption) | (with_reducible refine Chg.drewN ?_ _) | (with_reducible refine Chg.drew ?_) | (with_reducible refine Chg.alloc ?_ _) | (with_reducible refine Chg.setCell ?_ (by first | (left; simp [DevH.foot]; done) | (right; simp; done) | (right; simp; omega)) _)))⟩

theorem room_calls (hj : JnAt w h t J) :
    Calls Tryz.prog 81 #[.pointer (some ⟨t.J, 0, none⟩)] w fun e w' => e = .returned (.int .i64 J.room) ∧ Chg No w w' := by
  have c3 := hj.box.cell 3
  have c5 := hj.box.cell 5
  simp at c3 c5
  have hu := hj.used
  have hf := hj.fit
  have hr : ((J.room : Nat) : Int) = (J.pages : Int) - (J.used : Int) := by unfold Jn.room; omega
  have hew : IntKind.i64.wrap ((J.pages : Int) - (J.used : Int)) = (J.pages : Int) - (J.used : Int) := IntWalk.i64_in _ (by omega)
  rw [hr]
  clear hj hr
  go_enter Tryz.func81, Tryz.ntmps81
  go_wp2_with fail
  go_quiet (fail)
  go_wp2
  go_ret
  exact ⟨rfl, by (repeat (first | (with_reducible exact Chg.refl _ _) | (with_reducible assumption) | (with_reducible refine Chg.drewN ?_ _) | (with_reducible refine Chg.drew ?_) | (with_reducible refine Chg.alloc ?_ _) | (with_reducible refine Chg.setCell ?_ (by first | (left; simp [DevH.foot]; done) | (right; simp; done) | (right; simp; omega)) _)))⟩

set_option maxRecDepth 100000 in
set_option maxHeartbeats 4000000 in
theorem begin_calls {a b c d : Value} {u : Value} {M0 M1 : Value} (hb : Blk w t.J tJn #[a, b, c, d, u, M0, M1]) (gen : Nat) :
    Calls Tryz.prog 59 #[.pointer (some ⟨t.J, 0, none⟩), .int .u64 gen] w fun e w' => e = .returned (.tuple #[]) ∧ Blk w' t.J tJn #[a, b, c, d, .int .u64 gen, .int .i64 0, .map (some w.heap.size)] ∧ MapIs ukey w' w.heap.size (jes []) ∧ Chg (fun k => k = t.J) w w' := by
  have f4 := hb.frozen 4
  have f5 := hb.frozen 5
  have f6 := hb.frozen 6
  have c4 := hb.cell 4
  have c5 := hb.cell 5
  have c6 := hb.cell 6
  simp at c4 c5 c6
  have HB := Lib.hid hb
  have hlt := hb.lt
  have hmm := @run_makeMap Tryz.prog
  clear hb
  go_enter Tryz.func59, Tryz.ntmps59
  go_wp2
  go_end0
  refine ⟨rfl, ?_, ?_, ?_⟩
  · have h4 : Blk (w.setCell ⟨t.J, 4, none⟩ (.int .u64 gen)) t.J tJn #[a, b, c, d, .int .u64 gen, M0, M1] := by have := HB.out.set_ 4 (.int .u64 gen); simpa using this
    have h5 : Blk ((w.setCell ⟨t.J, 4, none⟩ (.int .u64 gen)).setCell ⟨t.J, 5, none⟩ (.int .i64 0)) t.J tJn #[a, b, c, d, .int .u64 gen, .int .i64 0, M1] := by have := h4.set_ 5 (.int .i64 0); simpa using this
    have h6 := h5.set_ 6 (.map (some w.heap.size))
    have h7 : Blk (((w.setCell ⟨t.J, 4, none⟩ (.int .u64 gen)).setCell ⟨t.J, 5, none⟩ (.int .i64 0)).setCell ⟨t.J, 6, none⟩ (.map (some w.heap.size))) t.J tJn #[a, b, c, d, .int .u64 gen, .int .i64 0, .map (some w.heap.size)] := by simpa using h6
    exact h7.alloc _
  · have := MapIs.made ukey (((w.setCell ⟨t.J, 4, none⟩ (.int .u64 gen)).setCell ⟨t.J, 5, none⟩ (.int .i64 0)).setCell ⟨t.J, 6, none⟩ (.map (some w.heap.size)))
    simp only [World.size_setCell] at this
    exact this
  · have h4 : Chg (fun k => k = t.J) w (w.setCell ⟨t.J, 4, none⟩ (.int .u64 gen)) := chg_setCell w ⟨t.J, 4, none⟩ _
    have h5 := Chg.setCell h4 (p := ⟨t.J, 5, none⟩) (.inl rfl) (.int .i64 0)
    exact (Chg.setCell h5 (p := ⟨t.J, 6, none⟩) (.inl rfl) (.map (some w.heap.size))).alloc _

/-- marks are noted -/
theorem note_step (ms : Marks) (m : Mk) : note1 ms m = match aget ms (m.1 : Int) with
    | some v => if v < m.2 then aset ms (m.1 : Int) m.2 else ms
    | none => aset ms (m.1 : Int) m.2 := rfl
theorem note_take {l : List Mk} {k : Nat} {m : Mk} (ms : Marks) (h : l[k]? = some m) : note ms (l.take (k + 1)) = note1 (note ms (l.take k)) m := by
  unfold note
  rw [List.take_add_one, h, Option.toList, List.foldl_append]; rfl

set_option maxRecDepth 100000 in
set_option maxHeartbeats 4000000 in
theorem note_calls (hj : JnAt w h t J) (A : Option Addr) (n c : Nat) (l : List Mk) (te : TypeId) (hn : l.length = n) (hr : Rd w te A (n * 2) (mks l)) (hm : n ≤ 1000000) :
    Calls Tryz.prog 65 #[.pointer (some ⟨t.J, 0, none⟩), .slice A n c] w fun e w' => e = .returned (.tuple #[]) ∧ JnAt w' h t { J with marks := note J.marks l } ∧ Chg (fun k => k = t.M) w w' := by
  have HJ := Lib.hid hj
  have HR := Lib.hid hr
  have HNL := Lib.hid hn
  clear hj hr hn
  go_enter Tryz.func65, Tryz.ntmps65
  go_wp2
  go_loopg [10] n (fun gk vi wr => ∃ k : Nat, gk = n - k ∧ k ≤ n ∧ vi = .int .i64 k ∧ Hid (JnAt wr h t { J with marks := note J.marks (l.take k) } ∧ Chg (fun k => k = t.M) w wr))
  case atStart => exact ⟨0, rfl, Nat.zero_le _, rfl, HJ.out, Chg.refl _ _⟩
  case round =>
    obtain ⟨k, rfl, hk, rfl, H⟩ := hrel
    by_cases hlt : k < n
    · obtain ⟨m, hm⟩ : ∃ m, l[k]? = some m := ⟨_, List.getElem?_eq_getElem (by rw [HNL.out]; exact hlt)⟩
      obtain ⟨g, off, eA, hg, hx⟩ := (HR.out.chg H.out.2 (fun g cur fz hg e => HJ.out.map.ne_blk hg e.symm)).at_ (j := k * 2) (by omega)
      subst eA
      have c0 := hx (k * 2) _ (mks_get l k m hm).1
      have c1 := hx (k * 2 + 1) _ (mks_get l k m hm).2
      rw [← Nat.add_assoc] at c1
      have hkk : (k : Int) < (n : Int) := by omega
      have HSU := Lib.hid (note_take J.marks hm)
      obtain ⟨ms, hms⟩ : ∃ ms, ms = note J.marks (l.take k) := ⟨_, rfl⟩
      rw [← hms] at H HSU
      obtain ⟨kx, vx⟩ := m
      have HLT := Lib.hid hlt
      clear hx hm hms hlt
      go_wp2_with fail
      refine wp_forget (fun W => Chg No wr W ∧ Blk W wr.heap.size tMark #[.int .u64 kx, .int .u64 vx]) ⟨by (repeat (first | (with_reducible exact Chg.refl _ _) | (with_reducible assumption) | (with_reducible refine Chg.drewN ?_ _) | (with_reducible refine Chg.drew ?_) | (with_reducible refine Chg.alloc ?_ _) | (with_reducible refine Chg.setCell ?_ (by first | (left; simp [DevH.foot]; done) | (right; simp; done) | (right; simp; omega)) _))), Blk.new _ _ _⟩ (fun W hW => ?_)
      obtain ⟨hcW, hbW⟩ := hW
      obtain ⟨ga, hga⟩ : ∃ ga, wr.heap.size = ga := ⟨_, rfl⟩
      rw [hga] at hbW ⊢
      have hlW := H.out.1.chgNo hcW
      have d6 := hlW.box.cell 6
      simp at d6
      have a0 := hbW.cell 0
      have a1 := hbW.cell 1
      simp at a0 a1
      have hlk : ∀ q, (Instr.lookup tJm (.map (some t.M)) (.int .u64 kx) true).run Tryz.prog (W.drewN q) = .ok (.tuple #[.int .u64 ((aget ms (kx : Int)).getD 0 : Nat), .bool (aget ms (kx : Int)).isSome]) (W.drewN q) := fun q => look_jn (hlW.map.drewN q) _
      have hlk0 : (Instr.lookup tJm (.map (some t.M)) (.int .u64 kx) true).run Tryz.prog W = .ok (.tuple #[.int .u64 ((aget ms (kx : Int)).getD 0 : Nat), .bool (aget ms (kx : Int)).isSome]) W := look_jn hlW.map _
      have HLW := Lib.hid hlW
      have HCW := Lib.hid hcW
      have HBW := Lib.hid hbW
      have HN1 := Lib.hid (note_step ms (kx, vx))
      have HCR := Lib.hid H.out.2
      obtain ⟨o, ho⟩ : ∃ o, o = aget ms (kx : Int) := ⟨_, rfl⟩
      have HNO : Hid (note1 ms (kx, vx) = noteOf ms kx vx o) := by show _ = _; rw [ho]; exact HN1.out
      rw [← ho] at hlk hlk0
      clear hlW hcW hbW hga H ho HN1 c0 c1
      cases o with
      | none =>
        have HNO2 : Hid (note1 ms (kx, vx) = aset ms (kx : Int) vx) := by show _ = _; rw [HNO.out]; unfold noteOf; first | rfl | (simp only; rw [if_pos hkeep])
        go_quiet (fail)
        go_wp2_with fail
        refine wp_forget (fun W2 => Chg No W W2) ((Chg.refl No W).drewN _) (fun W2 hW2 => ?_)
        have hl2 := HLW.out.chgNo (hW2.drew)
        have hb2 := HBW.out.chg (hW2.drew) (fun h => h)
        have d6' := hl2.box.cell 6
        simp at d6'
        have a0' := hb2.cell 0
        have a1' := hb2.cell 1
        simp at a0' a1'
        obtain ⟨o, hrun, hmap⟩ := hl2.map.update (P := Tryz.prog) (keyLaw_int (Tryz.underlying28)) Tryz.underlying115 (kx : Int) (.int .u64 vx)
        rw [aset_jes] at hmap
        have hcM : Chg (fun k => k = t.M) W2.drew (setBlock W2.drew t.M o) := chg_setBlock _ _ _
        have HND := Lib.hid (And.intro (hl2.mapped hcM hmap) ((HCR.out.trans (HCW.out.mono (fun _ _ h => h.elim))).trans (((hW2.drew).mono (fun _ _ h => h.elim)).trans hcM)))
        clear hl2 hb2 hmap hcM hW2 hlk hlk0 a0 a1 d6
        go_region
        all_goals
          go_wp2
          go_roundg (n - (k + 1))
          case measure => omega
          case rel =>
            refine ⟨k + 1, rfl, by have := HLT.out; omega, by go_num, ?_⟩
            rw [HSU.out, HNO2.out]
            exact HND.out
      | some v =>
        by_cases hv : v < vx
        · have hvi : (v : Int) < (vx : Int) := by omega
          have hkeep := hv
          have HNO2 : Hid (note1 ms (kx, vx) = aset ms (kx : Int) vx) := by show _ = _; rw [HNO.out]; unfold noteOf; first | rfl | (simp only; rw [if_pos hkeep])
          go_quiet (fail)
          go_wp2_with fail
          refine wp_forget (fun W2 => Chg No W W2) ((Chg.refl No W).drewN _) (fun W2 hW2 => ?_)
          have hl2 := HLW.out.chgNo (hW2.drew)
          have hb2 := HBW.out.chg (hW2.drew) (fun h => h)
          have d6' := hl2.box.cell 6
          simp at d6'
          have a0' := hb2.cell 0
          have a1' := hb2.cell 1
          simp at a0' a1'
          obtain ⟨o, hrun, hmap⟩ := hl2.map.update (P := Tryz.prog) (keyLaw_int (Tryz.underlying28)) Tryz.underlying115 (kx : Int) (.int .u64 vx)
          rw [aset_jes] at hmap
          have hcM : Chg (fun k => k = t.M) W2.drew (setBlock W2.drew t.M o) := chg_setBlock _ _ _
          have HND := Lib.hid (And.intro (hl2.mapped hcM hmap) ((HCR.out.trans (HCW.out.mono (fun _ _ h => h.elim))).trans (((hW2.drew).mono (fun _ _ h => h.elim)).trans hcM)))
          clear hl2 hb2 hmap hcM hW2 hlk hlk0 a0 a1 d6
          go_region
          all_goals
            go_wp2
            go_roundg (n - (k + 1))
            case measure => omega
            case rel =>
              refine ⟨k + 1, rfl, by have := HLT.out; omega, by go_num, ?_⟩
              rw [HSU.out, HNO2.out]
              exact HND.out
        · have hvi : ¬ (v : Int) < (vx : Int) := by omega
          have HNO2 : Hid (note1 ms (kx, vx) = ms) := by show _ = _; rw [HNO.out]; unfold noteOf; simp only; rw [if_neg hv]
          go_quiet (fail)
          go_wp2
          go_roundg (n - (k + 1))
          case measure => omega
          case rel =>
            refine ⟨k + 1, rfl, by have := HLT.out; omega, by go_num, ?_⟩
            rw [HSU.out, HNO2.out]
            exact ⟨HLW.out.chgNo ((Chg.refl No _).drewN _), HCR.out.trans ((HCW.out.drewN _).mono (fun _ _ h => h.elim))⟩
    · obtain rfl : k = n := by omega
      go_wp2
      go_end0
      refine ⟨rfl, ?_, H.out.2⟩
      have e : l.take k = l := List.take_of_length_le (by rw [HNL.out]; exact Nat.le_refl _)
      rw [← e]
      exact H.out.1
end
end Go.Proofs.YtplpbbdakihnfaaGreat
end
