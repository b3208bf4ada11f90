/- Packed texts: RegJ, RegK. -/
import Derived.Test.YtplpbbdakihnfaaGreatPk09

/- A log between two states: what lies in memory, whatever its keys say. -/
section
namespace Go.Proofs.YtplpbbdakihnfaaGreat
open Go.RowKit
open Go.ChangeMaps (setBlock)
set_option linter.unusedSimpArgs false
set_option linter.unusedVariables false

/-- all but the struct's cells and what holds of each log -/
structure LgRaw (w : World) (h : DevH) (t : LgH) (G : Lg) : Prop where
  struc : ∃ cs, Blk w t.L tLog cs
  regs : ∃ ses : List (Nat × Value), ses.length = G.regs.length ∧ w.ownsRow 0 tSeal 2 t.R G.regs.length (secs ses) ∧ ∀ (i : Nat) (S : Sealed), G.regs[i]? = some S → ∃ v, ses[i]? = some (S.num, v) ∧ SlAt w t v S.l
  opn : w.ownsRow 0 tItem 5 t.O G.opn.length (its G.opn)
  map : MapIs skey w t.M (amap plv G.keys)
  ownL : t.own t.L
  ownM : t.own t.M
  ownR : ∀ k, t.R.ownBlock = some k → t.own k
  ownO : ∀ k, t.O.ownBlock = some k → t.own k
  lt : ∀ k, t.own k → k < w.heap.size
  far : t.M ≠ h.M

def boxOf (h : DevH) (t : LgH) (G : Lg) : Array Value := #[.pointer (some ⟨h.d, 0, none⟩), .int .i64 G.losses, .int .i64 G.first, t.R, t.O, .int .i64 (isum G.opn), .int .u64 G.number, .map (some t.M)]

section
variable {S : Nat → Prop} {w w' : World} {h : DevH} {t : LgH} {G : Lg}
theorem LgAt.raw (hl : LgAt w h t G) : LgRaw w h t G := ⟨⟨_, hl.box⟩, hl.regs, hl.opn, hl.map, hl.ownL, hl.ownM, hl.ownR, hl.ownO, hl.lt, hl.far⟩
theorem LgRaw.at_ (hl : LgRaw w h t G) (hb : Blk w t.L tLog (boxOf h t G)) (ok : G.Ok) : LgAt w h t G := ⟨hb, hl.regs, hl.opn, hl.map, hl.ownL, hl.ownM, hl.ownR, hl.ownO, hl.lt, hl.far, ok⟩
theorem LgRaw.chg (hl : LgRaw w h t G) (hc : Chg S w w') (hn : ∀ k, t.own k → ¬ S k) : LgRaw w' h t G :=
  { hl with
    struc := by obtain ⟨cs, hb⟩ := hl.struc; exact ⟨cs, hb.chg hc (hn _ hl.ownL)⟩
    regs := by
      obtain ⟨ses, h1, h2, h3⟩ := hl.regs
      refine ⟨ses, h1, own_chg h2 hc (fun k hk => hn k (hl.ownR k hk)), fun i S hS => ?_⟩
      obtain ⟨v, e, hv⟩ := h3 i S hS
      exact ⟨v, e, hv.chg hc (fun k hk _ => hn k hk)⟩
    opn := own_chg hl.opn hc (fun k hk => hn k (hl.ownO k hk))
    map := hl.map.chg hc (hn _ hl.ownM)
    lt := fun k hk => Nat.lt_of_lt_of_le (hl.lt k hk) hc.size }
theorem LgRaw.chgNo (hl : LgRaw w h t G) (hc : Chg No w w') : LgRaw w' h t G := hl.chg hc (fun _ _ h => h)
/-- only one block of another kind than the rows is changed: the struct's or the map's -/
theorem LgRaw.one {g : Nat} (hl : LgRaw w h t G) (hc : Chg (fun k => k = g) w w') (hg : ∀ cs T fz, w.heap[g]? = some (.cells cs T fz) → T = tLog) (hs : ∃ cs, Blk w' t.L tLog cs) {ks : Keys} (hm : MapIs skey w' t.M (amap plv ks)) : LgRaw w' h t { G with keys := ks } := by
  have hrow : ∀ {k T cs fz}, w.heap[k]? = some (.cells cs T fz) → T ≠ tLog → ¬ k = g := fun hk hT e => hT (hg _ _ _ (by rw [← e]; exact hk))
  have hown : ∀ {v : Value} {base e size n : Nat} {xs : List Value}, e ≠ tLog → w.ownsRow base e size v n xs → w'.ownsRow base e size v n xs := by
    intro v base e size n xs he ho
    refine own_chg ho hc (fun k hk => ?_)
    rcases ho.2 with ⟨e1, _⟩ | ⟨g', cap, cur, e1, _, hg', _⟩
    · rw [e1] at hk; simp [Value.ownBlock] at hk
    · rw [e1] at hk
      have : g' = k := by simpa [Value.ownBlock] using hk
      subst this
      exact hrow hg' he
  exact { hl with
    struc := hs
    regs := by
      obtain ⟨ses, h1, h2, h3⟩ := hl.regs
      refine ⟨ses, h1, hown (by decide) h2, fun i S hS => ?_⟩
      obtain ⟨v, e, A, c, h4, h5, h6, h7⟩ := h3 i S hS
      exact ⟨v, e, A, c, h4, h5, h6.chg hc (fun g cur fz hg => hrow hg (by decide)), h7⟩
    opn := hown (by decide) hl.opn
    map := hm
    lt := fun k hk => Nat.lt_of_lt_of_le (hl.lt k hk) hc.size }
/-- the struct is written -/
theorem LgRaw.boxed (hl : LgRaw w h t G) (hc : Chg (fun k => k = t.L) w w') (hs : ∃ cs, Blk w' t.L tLog cs) : LgRaw w' h t G := by
  obtain ⟨cs0, hb0⟩ := hl.struc
  exact hl.one (ks := G.keys) hc (fun cs T fz hg => by unfold Blk at hb0; rw [hg] at hb0; injection hb0 with hb0; injection hb0) hs (hl.map.chg hc (fun e => hl.map.ne_blk hb0 e))
/-- the map is written -/
theorem LgRaw.mapped (hl : LgRaw w h t G) (hc : Chg (fun k => k = t.M) w w') {ks : Keys} (hm : MapIs skey w' t.M (amap plv ks)) : LgRaw w' h t { G with keys := ks } := by
  obtain ⟨cs0, hb0⟩ := hl.struc
  exact hl.one hc (fun cs T fz hg => absurd rfl (hl.map.ne_blk hg)) ⟨cs0, hb0.chg hc (fun e => hl.map.ne_blk hb0 e.symm)⟩ hm
theorem LgRaw.nodup (hl : LgRaw w h t G) : (akeys G.keys).Nodup := by
  have := hl.map.nodup
  rwa [akeys_amap] at this
/-- 'l.keys[key]' -/
theorem look_map {ks : Keys} {M : Nat} (hm : MapIs skey w M (amap plv ks)) (key : ByteArray) : (Instr.lookup tKeys (.map (some M)) (.string key) false).run Tryz.prog w = .ok (plv ((aget ks key).getD .zero)) w := by
  have e := hm.lookup (keyLaw_string (Tryz.underlying9)) Tryz.underlying128 (zero_pl w) key false
  rw [e, aget_amap]
  cases aget ks key <;> rfl
end

/-- a region is sealed: its items stand in the row's place i -/
theorem LgAt.sealedRaw {w : World} {h : DevH} {t : LgH} {G : Lg} (hl : LgAt w h t G) {g n c i : Nat} (hR : t.R = .slice (some ⟨g, 0, none⟩) n c) (hi : i < G.regs.length) (num : Nat) :
    LgRaw ((w.setCell ⟨g, i * 2, none⟩ (.int .u64 num)).setCell ⟨g, i * 2 + 1, none⟩ t.O) h { t with O := .slice none 0 0 } { G with regs := G.regs.set i ⟨num, G.opn⟩, opn := [] } ∧ Chg (fun k => k = g) w ((w.setCell ⟨g, i * 2, none⟩ (.int .u64 num)).setCell ⟨g, i * 2 + 1, none⟩ t.O) := by
  have hc : Chg (fun k => k = g) w ((w.setCell ⟨g, i * 2, none⟩ (.int .u64 num)).setCell ⟨g, i * 2 + 1, none⟩ t.O) := Chg.setCell (S := fun k => k = g) (Chg.setCell (S := fun k => k = g) (Chg.refl _ _) (.inl rfl) _) (.inl rfl) _
  obtain ⟨_, hn, _, cur0, hcur0⟩ := hl.rowAt hR
  have hrd : ∀ {A k xs}, Rd w tItem A k xs → Rd ((w.setCell ⟨g, i * 2, none⟩ (.int .u64 num)).setCell ⟨g, i * 2 + 1, none⟩ t.O) tItem A k xs := fun h6 => h6.chg hc (fun g cur fz hg => hl.rowNe hR hg (by decide))
  refine ⟨⟨⟨_, hl.box.chg hc (hl.rowNe hR hl.box (by decide))⟩, ?_, World.ownsRow_nil _ _ _ _, hl.map.chg hc (fun e => hl.map.ne_blk hcur0 e), hl.ownL, hl.ownM, hl.ownR, fun k hk => by simp [Value.ownBlock] at hk, fun k hk => Nat.lt_of_lt_of_le (hl.lt k hk) hc.size, hl.far⟩, hc⟩
  obtain ⟨ses, h1, h2, h3⟩ := hl.regs
  refine ⟨ses.set i (num, t.O), by simpa using h1, ?_, ?_⟩
  · rw [secs_set ses i _ (by omega)]
    show World.ownsRow _ 0 tSeal 2 t.R (G.regs.set i ⟨num, G.opn⟩).length _
    rw [List.length_set]
    have h2' := h2
    rw [hR] at h2'
    obtain rfl : n = G.regs.length := hn
    have := ((h2'.stored (i * 2) (.int .u64 num)).1.stored (i * 2 + 1) t.O).1
    rw [hR]
    exact this
  · intro j S hS
    simp only at hS
    rw [List.getElem?_set] at hS
    by_cases hij : i = j
    · rw [if_pos hij, if_pos hi] at hS
      injection hS with hS
      subst hS
      obtain ⟨A, c', hO, hnc, hr⟩ := hl.openAs
      refine ⟨t.O, by rw [List.getElem?_set, if_pos hij, if_pos (by omega)], A, c', hO, hnc, hrd hr, ?_⟩
      intro g' off h0 hA
      refine ⟨hl.ownO g' ?_, by simp [Value.ownBlock]⟩
      rw [hO, hA]
      obtain ⟨g2, o2, cur, fz, e2, _, _⟩ := hr.2 (by show 0 < G.opn.length * 5; simp only at h0; omega)
      have hoff : off = 0 := by
        rcases hl.opn.2 with ⟨e, _⟩ | ⟨g3, cap, cur3, e, _⟩
        · rw [hO, hA] at e; cases e
        · rw [hO, hA] at e
          injection e with e1
          simp only [Option.some.injEq, Addr.mk.injEq, and_true] at e1
          exact e1.2
      subst hoff
      rfl
    · rw [if_neg hij] at hS
      obtain ⟨v, e, A, c', h4, h5, h6, h7⟩ := h3 j S hS
      exact ⟨v, by rw [List.getElem?_set, if_neg hij]; exact e, A, c', h4, h5, hrd h6, fun g' off h0 hA => ⟨(h7 g' off h0 hA).1, by simp [Value.ownBlock]⟩⟩

theorem Lg.Ok.shut {G : Lg} (ho : G.Ok) (hn : (akeys G.keys).Nodup) (hnum : G.number + 1 < 18446744073709551616) : G.shut.Ok := by
  have hi : G.next < G.regs.length := Nat.mod_lt _ ho.pos
  have hg := ho.gave hn hi
  have hlen : G.shut.regs.length = G.regs.length := by simp [Lg.shut]
  have hreg : ∀ j, G.shut.regs[j]? = if G.next = j then some ⟨G.number + 1, G.opn⟩ else G.regs[j]? := by
    intro j
    unfold Lg.shut
    simp only
    rw [List.getElem?_set]
    by_cases hj : G.next = j
    · rw [if_pos hj, if_pos hj, if_pos (by simpa using hi)]
    · rw [if_neg hj, if_neg hj, List.getElem?_set, if_neg hj]
  have hv : ∀ key p, aget G.given.2 key = some p → p.op = true → p.rg = 0 ∧ ∃ x, G.opn[p.ix]? = some x ∧ x.key = key := by
    intro key p hp hop
    have := hg.keys key p hp
    unfold Lg.plOk at this
    rw [if_pos hop] at this
    exact this
  refine { pos := by rw [hlen]; exact ho.pos, most := by rw [hlen]; exact ho.most, fit := by rw [hlen]; exact ho.fit, num := hnum, small := ?_, good := rfl, sum := by simp [Lg.shut, isum], keys := ?_ }
  · intro S hS
    rcases List.mem_or_eq_of_mem_set hS with hS | rfl
    · exact hg.small S hS
    · exact ⟨by have := ho.len; show G.opn.length ≤ 1000; omega, hnum⟩
  · intro key p hp
    have hp' : aget (moveK G.next G.given.2 G.opn) key = some p := hp
    rw [← moveT_all, moveT_get _ _ _ hv _ (Nat.le_refl _)] at hp'
    cases h0 : aget G.given.2 key with
    | none => rw [h0] at hp'; cases hp'
    | some q =>
      rw [h0] at hp'
      simp only [Option.map_some, Option.some.injEq] at hp'
      unfold Lg.plOk
      by_cases hop : q.op = true
      · obtain ⟨hr0, x, hx, hk⟩ := hv key q h0 hop
        have hlt := (List.getElem?_eq_some_iff.1 hx).1
        unfold moved at hp'
        rw [if_pos ⟨hop, hlt⟩] at hp'
        subst hp'
        simp only [Bool.false_eq_true, if_false]
        exact ⟨_, x, by rw [hreg, if_pos rfl], hx, hk⟩
      · unfold moved at hp'
        rw [if_neg (fun hh => hop hh.1)] at hp'
        subst hp'
        have := hg.keys key q h0
        unfold Lg.plOk at this
        rw [if_neg hop] at this ⊢
        obtain ⟨S, x, hS, hx, hk⟩ := this
        simp only at hS
        rw [List.getElem?_set] at hS
        by_cases hj : G.next = q.rg
        · rw [if_pos hj, if_pos hi] at hS
          injection hS with hS
          subst hS
          simp [Sealed.no] at hx
        · rw [if_neg hj] at hS
          exact ⟨S, x, by rw [hreg, if_neg hj]; exact hS, hx, hk⟩
end Go.Proofs.YtplpbbdakihnfaaGreat
end

/- region's Seal, walked. -/
section
namespace Go.Proofs.YtplpbbdakihnfaaGreat
open Go.RowKit
open Go.ChangeMaps (setBlock)
attribute [local go_sem ↓] Go.wp_at_zero Go.wp_at_succ
set_option linter.unusedSimpArgs false
set_option linter.unusedVariables false

/-- what Seal and Put leave: v: what was lost -/
structure LgPost (w : World) (h : DevH) (t : LgH) (R : LgR) (v : Value) (t' : LgH) (w' : World) : Prop where
  lost : w'.ownsRow w.heap.size tItem 5 v R.lost.length (its R.lost)
  dev : DevAt w' h R.D
  log : LgAt w' h t' R.G
  chg : Chg (fun k => h.foot k ∨ t.spot k) w w'
  L : t'.L = t.L
  own : ∀ k, t'.own k → t.own k ∨ w.heap.size ≤ k
  spot : ∀ k, t'.spot k → t.spot k ∨ w.heap.size ≤ k
  lostNo : ∀ k, v.ownBlock = some k → ¬ t'.own k

theorem giveK_len (i : Nat) (ks : Keys) (l : List Item) : (giveK i ks l).1.length ≤ l.length := by
  rw [← giveT_all]; exact giveT_len i ks l _ (Nat.le_refl _)

/-- while the open region's keys are moved -/
structure SealMid (w : World) (h : DevH) (t : LgH) (G : Lg) (D2 : Dev) (v : Value) (i : Nat) (ks : Keys) (W : World) : Prop where
  raw : LgRaw W h { t with O := .slice none 0 0 } { G with number := G.number + 1, regs := (G.regs.set i .no).set i ⟨G.number + 1, G.opn⟩, opn := [], keys := ks }
  box : Blk W t.L tLog (boxOf h t { G with number := G.number + 1 })
  rd : ∀ A c, t.O = .slice A G.opn.length c → Rd W tItem A (G.opn.length * 5) (its G.opn)
  dev : DevAt W h D2
  lost : W.ownsRow w.heap.size tItem 5 v G.given.1.length (its G.given.1)
  chg : Chg (fun k => h.foot k ∨ t.spot k) w W
theorem SealMid.chgNo {w W W' : World} {h : DevH} {t : LgH} {G : Lg} {D2 : Dev} {v : Value} {i : Nat} {ks : Keys} (hm : SealMid w h t G D2 v i ks W) (hc : Chg No W W') : SealMid w h t G D2 v i ks W' :=
  ⟨hm.raw.chgNo hc, hm.box.chg hc (fun h => h), fun A c e => (hm.rd A c e).chg hc (fun _ _ _ _ h => h), (DevN.chgNo hm.dev hc).at_, own_chg hm.lost hc (fun _ _ h => h), hm.chg.then hc (fun _ _ h => h.elim)⟩
theorem own_no_map {w W : World} {M base e size n : Nat} {v : Value} {xs : List Value} {es : List (ByteArray × Value)} (hm : MapIs skey w M es) (ho : w.ownsRow base e size v n xs) : ∀ k, v.ownBlock = some k → ¬ k = M := by
  intro k hk e'
  rcases ho.2 with ⟨e1, _⟩ | ⟨g', cap, cur, e1, _, hg', _⟩
  · rw [e1] at hk; simp [Value.ownBlock] at hk
  · rw [e1] at hk
    have : g' = k := by simpa [Value.ownBlock] using hk
    subst this
    exact hm.ne_blk hg' e'.symm
/-- the map's block is none of the device's -/
theorem dev_map {N : Nat} {W W' : World} {h : DevH} {D : Dev} {M : Nat} {es : List (ByteArray × Value)} (hd : DevN N W h D) (hm : MapIs skey W M es) (hf : M ≠ h.M) (hc : Chg (fun k => k = M) W W') : DevN N W' h D := by
  refine hd.chg hc (fun e => ?_) (fun e => ?_) (fun e => hf e.symm) (fun g cs T _ _ hb e => hm.ne_blk hb e.symm)
  · obtain ⟨a, b, c, e', hb⟩ := hd.box
    exact hm.ne_blk hb e.symm
  · obtain ⟨ps, hb, _⟩ := hd.row
    exact hm.ne_blk hb e.symm
theorem SealMid.mapped {w W W' : World} {h : DevH} {t : LgH} {G : Lg} {D2 : Dev} {v : Value} {i : Nat} {ks ks' : Keys} (hm : SealMid w h t G D2 v i ks W) (hc : Chg (fun k => k = t.M) W W') (hmap : MapIs skey W' t.M (amap plv ks')) : SealMid w h t G D2 v i ks' W' :=
  ⟨hm.raw.mapped hc hmap, hm.box.chg hc (fun e => hm.raw.map.ne_blk hm.box e.symm), fun A c e => (hm.rd A c e).chg hc (fun g cur fz hg e' => hm.raw.map.ne_blk hg e'.symm), (dev_map hm.dev hm.raw.map hm.raw.far hc).at_, own_chg hm.lost hc (own_no_map (W := W') hm.raw.map hm.lost), hm.chg.then hc (fun k _ e => .inr (.inr (.inl e)))⟩
theorem LgAt.renum {w : World} {h : DevH} {t : LgH} {G : Lg} (hl : LgAt w h t G) (num : Nat) (hn : num < 18446744073709551616) : LgAt (w.setCell ⟨t.L, 6, none⟩ (.int .u64 num)) h t { G with number := num } ∧ Chg (fun k => k = t.L) w (w.setCell ⟨t.L, 6, none⟩ (.int .u64 num)) := by
  have hc : Chg (fun k => k = t.L) w (w.setCell ⟨t.L, 6, none⟩ (.int .u64 num)) := Chg.setCell (S := fun k => k = t.L) (Chg.refl _ _) (.inl rfl) _
  have hb := hl.box.set_ 6 (.int .u64 num)
  have hr := hl.raw.boxed hc ⟨_, hb⟩
  refine ⟨LgRaw.at_ (G := { G with number := num }) ⟨hr.struc, hr.regs, hr.opn, hr.map, hr.ownL, hr.ownM, hr.ownR, hr.ownO, hr.lt, hr.far⟩ (by simpa [boxOf] using hb) ?_, hc⟩
  exact { hl.ok with num := hn }

section
variable {N : Nat} {w : World} {h : DevH} {t : LgH} {G : Lg} {D : Dev}
set_option maxRecDepth 100000 in
set_option maxHeartbeats 8000000 in
theorem seal_calls (hd : DevN N w h D) (hl : LgAt w h t G) :
    Calls Tryz.prog 60 #[.pointer (some ⟨t.L, 0, none⟩)] w fun e w' => ∃ v t', e = .returned (.tuple #[v, .int .i64 (G.sl D).e]) ∧ LgPost w h t (G.sl D) v t' w' := by
  have HD := Lib.hid hd
  have HL := Lib.hid hl
  have hlen := hl.ok.len
  have c4 := hl.box.cell 4
  have c6 := hl.box.cell 6
  have c3 := hl.box.cell 3
  simp at c3 c4 c6
  obtain ⟨Ao, co, hO, hnco, hrdo⟩ := hl.openAs
  have HO := Lib.hid hO
  rw [hO] at c4
  have hstay : ∀ W, Chg No w W → LgPost w h t ⟨G, D, [], 0⟩ (.slice none 0 0) t W := fun W hc => ⟨World.ownsRow_nil _ _ _ _, (HD.out.chgNo hc).at_, HL.out.chgNo hc, hc.mono (fun _ _ h => h.elim), rfl, fun k hk => .inl hk, fun k hk => .inl hk, fun k hk => by simp [Value.ownBlock] at hk⟩
  have HSTAY := Lib.hid hstay
  clear hstay
  by_cases h0 : G.opn = []
  · have hs : G.sl D = ⟨G, D, [], 0⟩ := by unfold Lg.sl; rw [if_pos h0]
    rw [hs]
    have hz : G.opn.length = 0 := by rw [h0]; rfl
    rw [hz] at c4
    clear hd hl hlen hO hnco hrdo h0 hs hz c3 c6
    go_enter Tryz.func60, Tryz.ntmps60
    go_wp2
    go_ret2
    exact ⟨_, t, rfl, HSTAY.out _ (Chg.refl _ _)⟩
  have hpos : 0 < G.opn.length := List.length_pos_iff.2 h0
  have HDONE := Lib.hid (done_calls hd hl)
  obtain ⟨no, hno⟩ : ∃ no, no = G.opn.length := ⟨_, rfl⟩
  rw [← hno] at c4 hlen hpos
  have hb0 : ((no : Int) == 0) = false := by simp; omega
  have hb0' : ¬ (no : Int) = 0 := by omega
  have HNO := Lib.hid hno
  by_cases h1 : G.losses ≠ D.losses
  · have hs : Hid ((G.sl D).e = 4 ∧ ∀ W, Chg No w W → LgPost w h t (G.sl D) (.slice none 0 0) t W) := by
      have e : G.sl D = ⟨G, D, [], 4⟩ := by unfold Lg.sl; rw [if_neg h0, if_pos h1]
      rw [e]
      exact ⟨rfl, fun W hc => ⟨(HSTAY.out W hc).lost, (HSTAY.out W hc).dev, (HSTAY.out W hc).log, (HSTAY.out W hc).chg, rfl, (HSTAY.out W hc).own, (HSTAY.out W hc).spot, (HSTAY.out W hc).lostNo⟩⟩
    rw [decide_eq_true h1] at HDONE
    clear hd hl hO hnco hrdo h0 h1 c3 c6 hno
    go_enter Tryz.func60, Tryz.ntmps60
    go_wp2_with fail
    refine HDONE.out.mono ?_
    rintro e w1 ⟨rfl, nq, rfl⟩
    go_wp2
    go_ret2
    exact ⟨_, t, by rw [hs.out.1]; rfl, hs.out.2 _ (by (repeat (first | (with_reducible exact Chg.refl _ _) | (with_reducible assumption) | (with_reducible refine Chg.drewN ?_ _) | (with_reducible refine Chg.drew ?_) | (with_reducible refine Chg.alloc ?_ _) | (with_reducible refine Chg.setCell ?_ (by first | (left; simp [DevH.foot]; done) | (right; simp; done) | (right; simp; omega)) _))))⟩
  rw [decide_eq_false h1] at HDONE
  by_cases h2 : G.number = 18446744073709551615
  · have hs : Hid ((G.sl D).e = 9 ∧ ∀ W, Chg No w W → LgPost w h t (G.sl D) (.slice none 0 0) t W) := by
      have e : G.sl D = ⟨G, D, [], 9⟩ := by unfold Lg.sl; rw [if_neg h0, if_neg h1, if_pos h2]
      rw [e]
      exact ⟨rfl, fun W hc => ⟨(HSTAY.out W hc).lost, (HSTAY.out W hc).dev, (HSTAY.out W hc).log, (HSTAY.out W hc).chg, rfl, (HSTAY.out W hc).own, (HSTAY.out W hc).spot, (HSTAY.out W hc).lostNo⟩⟩
    have c6' : w.cell? ⟨t.L, 6, none⟩ = some (.int .u64 18446744073709551615) := by rw [c6, h2]; rfl
    clear hd hl hO hnco hrdo h0 h1 h2 c3 c6 hno
    go_enter Tryz.func60, Tryz.ntmps60
    go_wp2_with fail
    refine HDONE.out.mono ?_
    rintro e w1 ⟨rfl, nq, rfl⟩
    go_wp2
    go_ret2
    exact ⟨_, t, by rw [hs.out.1]; rfl, hs.out.2 _ (by (repeat (first | (with_reducible exact Chg.refl _ _) | (with_reducible assumption) | (with_reducible refine Chg.drewN ?_ _) | (with_reducible refine Chg.drew ?_) | (with_reducible refine Chg.alloc ?_ _) | (with_reducible refine Chg.setCell ?_ (by first | (left; simp [DevH.foot]; done) | (right; simp; done) | (right; simp; omega)) _))))⟩
  have hnum : G.number + 1 < 18446744073709551616 := by have := hl.ok.num; omega
  have hni : G.next < G.regs.length := Nat.mod_lt _ hl.ok.pos
  have hnx : Hid (G.next = (G.number + 1) % G.regs.length) := rfl
  have hmost := hl.ok.most
  have HGIVE := fun W => Lib.hid (fun hc : Chg No w W => give_calls (hl.chgNo hc) G.next hni)
  have hgl := giveK_len G.next G.keys (rl G.regs G.next)
  have hSL : Hid (G.sl D = if (G.wrote D).2 = 0 then ⟨G.shut, (G.wrote D).1, G.given.1, 0⟩ else ⟨G.gave, (G.wrote D).1, G.given.1, (G.wrote D).2⟩) := by show _ = _; unfold Lg.sl; rw [if_neg h0, if_neg h1, if_neg h2]
  obtain ⟨r, ro, rc, hR, hrg, _⟩ := hl.row
  obtain ⟨rfl, _, _, _⟩ := hl.rowAt hR
  have HRR := Lib.hid hR
  rw [hR] at c3
  obtain ⟨num, hnumE⟩ : ∃ num, num = G.number := ⟨_, rfl⟩
  obtain ⟨m, hm⟩ : ∃ m, m = G.regs.length := ⟨_, rfl⟩
  obtain ⟨i, hiE⟩ : ∃ i, i = G.next := ⟨_, rfl⟩
  rw [← hnumE] at c6 hnum hnx h2
  rw [← hm] at c3 hni hnx hmost
  rw [← hiE] at hni hnx HGIVE
  have HNUM := Lib.hid hnumE
  have HIE := Lib.hid hiE
  have HME := Lib.hid hm
  have hw1 : IntKind.u64.wrap ((num : Int) + 1) = (num : Int) + 1 := wraps_u64 _ (by omega) (by omega)
  have hwm : IntKind.u64.wrap (m : Int) = (m : Int) := wraps_u64 _ (by omega) (by omega)
  have hwi : IntKind.i64.wrap (i : Int) = (i : Int) := IntWalk.i64_in _ (by omega)
  have hrem : ((num : Int) + 1).tmod (m : Int) = (i : Int) := by
    rw [Int.tmod_eq_emod_of_nonneg (by omega), hnx.out]; simp
  have hrem2 : ((num : Int) + 1) % (m : Int) = (i : Int) := by
    rw [hnx.out]; simp
  have hb2 : ((num : Int) == 18446744073709551615) = false := by simp; omega
  have hb2' : ¬ (num : Int) = 18446744073709551615 := by omega
  have hm0 : ((m : Int) == 0) = false := by simp; omega
  have hm0' : ¬ (m : Int) = 0 := by omega
  have HH2 := Lib.hid h2
  clear hd hl hO hnco hrdo h0 h1 h2 hno hR hnumE hm hiE
  go_enter Tryz.func60, Tryz.ntmps60
  go_wp2_with fail
  refine HDONE.out.mono ?_
  rintro e w1 ⟨rfl, nq, rfl⟩
  go_wp2_with fail
  refine ((HGIVE _).out (by (repeat (first | (with_reducible exact Chg.refl _ _) | (with_reducible assumption) | (with_reducible refine Chg.drewN ?_ _) | (with_reducible refine Chg.drew ?_) | (with_reducible refine Chg.alloc ?_ _) | (with_reducible refine Chg.setCell ?_ (by first | (left; simp [DevH.foot]; done) | (right; simp; done) | (right; simp; omega)) _))))).mono ?_
  rintro e w1 ⟨v, rfl, ho1, hl1, hc1⟩
  have HG1 : Hid (LgAt w1 h t G.gave) := by show LgAt _ _ _ _; unfold Lg.gave Lg.given; rw [← HIE.out]; exact hl1
  have HO1 : Hid (w1.ownsRow w.heap.size tItem 5 v G.given.1.length (its G.given.1)) := by show World.ownsRow _ _ _ _ _ _ _; unfold Lg.given; rw [← HIE.out]; exact ho1
  have HC1 : Hid (Chg t.spot w w1) := ((Chg.refl _ _).drewN _).trans hc1
  have HD1 : Hid (DevN N w1 h D) := (HL.out.chgNo ((Chg.refl No w).drewN nq)).dev (HD.out.chgNo ((Chg.refl No w).drewN nq)) hc1 (fun k _ hk => hk)
  have hgave : Hid (G.gave.regs.length = m ∧ G.gave.opn = G.opn ∧ G.gave.first = G.first) := ⟨by rw [HME.out]; simp [Lg.gave], rfl, rfl⟩
  have HWR := Lib.hid (rwrite_calls HD1.out HG1.out i (num + 1) (by rw [hgave.out.1]; exact hni) hnum)
  have HWE : Hid (wr D ((G.gave.first + 4 * i : Nat) : Int) (num + 1) (records G.gave.opn) = G.wrote D) := by show _ = _; unfold Lg.wrote; rw [HIE.out, HNUM.out]; rfl
  rw [HWE.out] at HWR
  obtain ⟨D2, hD2⟩ : ∃ D2, D2 = (G.wrote D).1 := ⟨_, rfl⟩
  obtain ⟨er, her⟩ : ∃ er, er = (G.wrote D).2 := ⟨_, rfl⟩
  rw [← hD2, ← her] at HWR
  rw [← hD2, ← her] at hSL
  clear ho1 hl1 hc1 HGIVE HDONE hD2 her HWE
  go_wp2_with fail
  refine HWR.out.mono ?_
  rintro e w2 ⟨rfl, hd2, hc2⟩
  have HD2 := Lib.hid hd2
  have HG2 := Lib.hid (HG1.out.foot HD1.out hc2)
  have hfn : ∀ k, v.ownBlock = some k → ¬ h.foot k := own_foot HD1.out HO1.out (by decide) (by decide)
  have HO2 := Lib.hid (own_chg HO1.out hc2 hfn)
  have HC2 : Hid (Chg (fun k => h.foot k ∨ t.spot k) w w2) := (HC1.out.mono (fun k _ hk => .inr hk)).then hc2 (fun k _ hk => .inl hk)
  have HVN : Hid (∀ k, v.ownBlock = some k → ¬ t.own k) := fun k hk ho => by have h1 := own_new HO1.out k hk; have h2 := HL.out.lt k ho; omega
  clear hd2 hc2 HWR hfn
  by_cases he : er = 0
  rotate_left
  · have hb : ((er : Int) != 0) = true := by simpa using he
    have HS : Hid (G.sl D = ⟨G.gave, D2, G.given.1, er⟩) := by show _ = _; rw [hSL.out, if_neg he]
    clear hSL
    go_wp2
    go_ret2
    refine ⟨v, t, by rw [HS.out]; rfl, ?_⟩
    rw [HS.out]
    exact ⟨HO2.out, HD2.out, HG2.out, HC2.out, rfl, fun k hk => .inl hk, fun k hk => .inl hk, HVN.out⟩
  subst he
  have HS : Hid (G.sl D = ⟨G.shut, D2, G.given.1, 0⟩) := by show _ = _; rw [hSL.out, if_pos rfl]
  have f6 := HG2.out.box.frozen 6
  have c6b := HG2.out.box.cell 6
  simp at c6b
  have HG3 := Lib.hid (HG2.out.renum (num + 1) hnum)
  have b3 := HG3.out.1.box.cell 3
  have b4 := HG3.out.1.box.cell 4
  simp at b3 b4
  rw [HRR.out] at b3
  rw [HO.out] at b4
  rw [← HNO.out] at b4
  rw [← HME.out] at b3
  have hLr : t.L ≠ r := fun e => HG3.out.1.rowNe HRR.out HG3.out.1.box (by decide) e
  have hrL : r ≠ t.L := fun e => hLr e.symm
  obtain ⟨S, hS⟩ : ∃ S, G.gave.regs[i]? = some S := ⟨_, List.getElem?_eq_getElem (by rw [hgave.out.1]; exact hni)⟩
  obtain ⟨vq, q0, q1, Aq, cq, rfl, _⟩ := HG3.out.1.rowCell HRR.out i S hS
  have hfz := (HG3.out.1.rowAt HRR.out).2.2.1
  have g0 := hfz (i * 2)
  have g1 := hfz (i * 2 + 1)
  have hii : (i : Int) < (m : Int) := by omega
  have hll : t.L < w2.heap.size := HG2.out.lt _ HG2.out.ownL
  have hrl : r < w2.heap.size := HG2.out.lt _ (HG2.out.ownR r (by rw [HRR.out]; rfl))
  have e1 : ((num + 1 : Nat) : Int) = (num : Int) + 1 := by omega
  simp only [e1] at b3 b4 q0 q1 g0 g1
  clear hfz hS hb2 hb2' hw1 hwm hwi hrem hrem2 hm0 hm0'
  go_wp2_with fail
  go_region
  have hraw := (HG3.out.1.sealedRaw HRR.out (i := i) (by show _ < G.gave.regs.length; rw [hgave.out.1]; exact hni) (num + 1)).1
  have hrc := (HG3.out.1.sealedRaw HRR.out (i := i) (by show _ < G.gave.regs.length; rw [hgave.out.1]; exact hni) (num + 1)).2
  rw [HO.out, ← HNO.out] at hraw hrc
  simp only [e1] at hraw hrc
  have hL3 := HG3.out.2
  have hG3 := HG3.out.1
  have hbx := hG3.box
  simp only [e1] at hL3 hG3 hbx
  have HMID : Hid (SealMid w h t G D2 v i G.given.2 (((w2.setCell ⟨t.L, 6, none⟩ (.int .u64 ((num : Int) + 1))).setCell ⟨r, i * 2, none⟩ (.int .u64 ((num : Int) + 1))).setCell ⟨r, i * 2 + 1, none⟩ (.slice Ao no co))) := by
    have hdev3 : DevAt (w2.setCell ⟨t.L, 6, none⟩ (.int .u64 ((num : Int) + 1))) h D2 := (HG2.out.dev HD2.out hL3 (fun k _ e => .inl e)).at_
    refine ⟨?_, ?_, ?_, ?_, ?_, ?_⟩
    · have : LgRaw _ h { t with O := .slice none 0 0 } { G.gave with number := num + 1, regs := G.gave.regs.set i ⟨num + 1, G.opn⟩, opn := [] } := hraw
      unfold Lg.gave at this
      rw [← HIE.out] at this
      rw [← HNUM.out]
      exact this
    · rw [← HNUM.out]
      have := hbx.chg hrc (fun e => hLr e)
      simpa [boxOf, Lg.gave] using this
    · intro A c e
      rw [HO.out] at e
      injection e with e1 e2 e3
      subst e1
      have := (hG3.openAs)
      obtain ⟨A', c', hA', _, hr'⟩ := this
      rw [HO.out] at hA'
      injection hA' with e1 e2 e3
      subst e1
      exact hr'.chg hrc (fun g cur fz hg => hG3.rowNe HRR.out hg (by decide))
    · exact (hG3.dev hdev3 hrc (fun k _ e => .inr (.inr (.inl (by rw [HRR.out, e]; rfl))))).at_
    · exact own_chg (own_chg HO2.out hL3 (fun k hk e => HVN.out k hk (by rw [e]; exact HG2.out.ownL))) hrc (fun k hk e => HVN.out k hk (HG2.out.ownR k (by rw [HRR.out, e]; rfl)))
    · exact (HC2.out.then hL3 (fun k _ e => .inr (.inl e))).then hrc (fun k _ e => .inr (.inr (.inr (.inl (by rw [HRR.out, e]; rfl)))))
  have z4 : w2.cell? ⟨t.L, 4, none⟩ = some (.slice Ao no co) := by
    have := HG2.out.box.cell 4
    simp at this
    rw [HO.out, ← HNO.out] at this
    exact this
  have HRD0 : Hid (∀ W, SealMid w h t G D2 v i G.given.2 W → Rd W tItem Ao (G.opn.length * 5) (its G.opn)) := fun W hW => hW.rd Ao co HO.out
  have hmv := moveT_all i G.given.2 G.opn
  rw [← HNO.out] at hmv
  have HMV := Lib.hid hmv
  have hlo : Hid (∀ k, k < no → ∃ x, G.opn[k]? = some x) := fun k hk => ⟨_, List.getElem?_eq_getElem (by rw [← HNO.out]; exact hk)⟩
  clear hraw hrc hL3 hG3 hbx b3 b4 q0 q1 g0 g1 f6 c6b e1 hmv
  go_wp2
  go_loopg [72] no (fun gk vi wr => ∃ k : Nat, gk = no - k ∧ k ≤ no ∧ vi = .int .i64 k ∧ Hid (SealMid w h t G D2 v i (moveT i G.given.2 G.opn k) wr))
  case atStart => exact ⟨0, rfl, Nat.zero_le _, rfl, HMID.out.chgNo ((Chg.refl _ _).drew)⟩
  case round =>
    obtain ⟨k, rfl, hk, rfl, H⟩ := hrel
    by_cases hlt : k < no
    · obtain ⟨x, hx⟩ := hlo.out k hlt
      have hsucc := moveT_succ i G.given.2 hx
      obtain ⟨ks, hks⟩ : ∃ ks, moveT i G.given.2 G.opn k = ks := ⟨_, rfl⟩
      rw [hks] at H hsucc
      have hrd1 := H.out.rd Ao co HO.out
      obtain ⟨g, off, c', he', hg, c0, c1, c2, c3, c4⟩ := SlAt.item (w := wr) (t := ⟨0, 0, .slice none 0 0, .slice none 0 0, fun _ => True⟩) (v := .slice Ao G.opn.length co) ⟨Ao, co, rfl, by obtain ⟨A', c'', hA', hn', _⟩ := HL.out.openAs; rw [HO.out] at hA'; injection hA' with _ _ e3; rw [e3]; exact hn', hrd1, fun _ _ _ _ => ⟨trivial, by simp [Value.ownBlock]⟩⟩ hx
      obtain ⟨ea, _, _⟩ : Ao = some ⟨g, off, none⟩ ∧ True ∧ True := by injection he' with e1 e2 e3; exact ⟨e1, trivial, trivial⟩
      subst ea
      have hki : (k : Int) < (no : Int) := by omega
      have HSUC := Lib.hid hsucc
      have HX := Lib.hid hx
      clear hsucc hks hrd1 hx he'
      go_wp2_with fail
      refine wp_forget (fun W => Chg No wr W ∧ Blk W wr.heap.size tItem (itc x).toArray) ⟨by (repeat (first | (with_reducible exact Chg.refl _ _) | (with_reducible assumption) | (with_reducible refine Chg.drewN ?_ _) | (with_reducible refine Chg.drew ?_) | (with_reducible refine Chg.alloc ?_ _) | (with_reducible refine Chg.setCell ?_ (by first | (left; simp [DevH.foot]; done) | (right; simp; done) | (right; simp; omega)) _))), Blk.new _ _ _⟩ (fun W hW => ?_)
      obtain ⟨hcW, hbW⟩ := hW
      obtain ⟨ga, hga⟩ : ∃ ga, wr.heap.size = ga := ⟨_, rfl⟩
      rw [hga] at hbW ⊢
      have HMW := Lib.hid (H.out.chgNo hcW)
      have hk := fun n => look_map (HMW.out.raw.map.chg ((Chg.refl No W).drewN n) (fun h => h)) x.key
      have d7 := HMW.out.box.cell 7
      simp [boxOf] at d7
      have a0 := hbW.cell 0
      simp [itc] at a0
      simp only [plv] at hk
      have hdec : (aget ks x.key = some ⟨true, 0, k⟩) = ((aget ks x.key).getD .zero = ⟨true, 0, k⟩) := by
        cases aget ks x.key with
        | none => simp [Pl.zero]
        | some p => simp
      obtain ⟨q, hq⟩ : ∃ q, q = (aget ks x.key).getD .zero := ⟨_, rfl⟩
      rw [← hq] at hk hdec
      have he : ∀ W, (binOp .eql tPlace (.agg #[.bool q.op, .int .i64 q.rg, .int .i64 q.ix]) (.agg #[.bool true, .int .i64 0, .int .i64 k])).run Tryz.prog W = .ok (.bool (decide (q = ⟨true, 0, k⟩))) W := fun W => run_eql_pl' q true 0 k W
      have HDEC := Lib.hid hdec
      have HBW := Lib.hid hbW
      clear hdec hcW hbW hga hq c0 c1 c2 c3 c4
      by_cases hpl : q = ⟨true, 0, k⟩
      · have he1 : ∀ W, (binOp .eql tPlace (.agg #[.bool q.op, .int .i64 q.rg, .int .i64 q.ix]) (.agg #[.bool true, .int .i64 0, .int .i64 k])).run Tryz.prog W = .ok (.bool true) W := fun W => by rw [he W, decide_eq_true hpl]
        have HYES : Hid (moveT i G.given.2 G.opn (k + 1) = aset ks x.key ⟨false, i, k⟩) := by
          show _ = _
          rw [HSUC.out, moveS, if_pos]
          simp only
          rw [HDEC.out]; exact hpl
        clear he hpl
        go_wp2_with fail
        go_quiet (fail)
        go_wp2_with fail
        refine wp_forget (fun V => Chg No W V) ((Chg.refl No W).drewN _) (fun V hV => ?_)
        have hmv2 := HMW.out.chgNo (hV.drew)
        have d7' := hmv2.box.cell 7
        simp [boxOf] at d7'
        have a0' := (HBW.out.chg hV (fun h => h)).cell 0
        simp [itc] at a0'
        obtain ⟨o, hrun, hmap⟩ := hmv2.raw.map.update (P := Tryz.prog) (keyLaw_string (Tryz.underlying9)) Tryz.underlying128 x.key (plv ⟨false, i, k⟩)
        rw [aset_amap] at hmap
        simp only [plv] at hrun
        have HNX := Lib.hid (hmv2.mapped (chg_setBlock _ _ _) hmap)
        clear hk d7 a0 hmv2 hmap hV
        go_region
        all_goals
          go_wp2
          go_roundg (no - (k + 1))
          case measure => omega
          case rel =>
            refine ⟨k + 1, rfl, by omega, by go_num, ?_⟩
            rw [HYES.out]
            exact HNX.out
      · have he1 : ∀ W, (binOp .eql tPlace (.agg #[.bool q.op, .int .i64 q.rg, .int .i64 q.ix]) (.agg #[.bool true, .int .i64 0, .int .i64 k])).run Tryz.prog W = .ok (.bool false) W := fun W => by rw [he W, decide_eq_false hpl]
        have HNO2 : Hid (moveT i G.given.2 G.opn (k + 1) = ks) := by
          show _ = _
          rw [HSUC.out, moveS, if_neg]
          simp only
          rw [HDEC.out]; exact hpl
        clear he hpl
        go_wp2_with fail
        go_quiet (fail)
        go_wp2
        go_roundg (no - (k + 1))
        case measure => omega
        case rel =>
          refine ⟨k + 1, rfl, by omega, by go_num, ?_⟩
          rw [HNO2.out]
          exact HMW.out.chgNo ((Chg.refl _ _).drewN _)
    · obtain rfl : k = no := by omega
      rw [HMV.out] at H
      have HM := Lib.hid H.out
      have b4 := H.out.box.cell 4
      have b5 := H.out.box.cell 5
      have f4 := H.out.box.frozen 4
      have f5 := H.out.box.frozen 5
      simp [boxOf] at b4 b5
      rw [HO.out, ← HNO.out] at b4
      clear hlt H
      go_wp2
      go_ret2
      have hc : Chg (fun j => j = t.L) wr ((wr.setCell ⟨t.L, 4, none⟩ (.slice none 0 0)).setCell ⟨t.L, 5, none⟩ (.int .i64 0)) := Chg.setCell (S := fun j => j = t.L) (Chg.setCell (S := fun j => j = t.L) (Chg.refl _ _) (.inl rfl) _) (.inl rfl) _
      have hb := (HM.out.box.set_ 4 (.slice none 0 0)).set_ 5 (.int .i64 0)
      refine ⟨v, { t with O := .slice none 0 0 }, by rw [HS.out]; rfl, ?_⟩
      rw [HS.out]
      have hdev : DevAt _ h D2 := HM.out.dev
      refine ⟨own_chg HM.out.lost hc (fun j hj e => HVN.out j hj (by rw [e]; exact HL.out.ownL)), ?_, ?_, HM.out.chg.then hc (fun j _ e => .inr (.inl e)), rfl, fun j hj => .inl hj, ?_, HVN.out⟩
      · refine (hdev.chg hc (fun e => ?_) (fun e => ?_) (fun e => ?_) (fun g cs T _ hT hb2 e => ?_)).at_
        · exact hdev.not_foot HM.out.box (by decide) (by decide) (.inl e.symm)
        · exact hdev.not_foot HM.out.box (by decide) (by decide) (.inr (.inl e.symm))
        · exact hdev.not_foot HM.out.box (by decide) (by decide) (.inr (.inr e.symm))
        · subst e
          have hb3 := HM.out.box
          unfold Blk at hb3 hb2
          rw [hb3] at hb2
          injection hb2 with hb2
          injection hb2 with _ e2
          rcases hT with rfl | rfl <;> exact absurd e2 (by decide)
      rotate_left
      · rintro k (hk | hk | hk | hk)
        · exact .inl (.inl hk)
        · exact .inl (.inr (.inl hk))
        · exact .inl (.inr (.inr (.inl hk)))
        · simp [Value.ownBlock] at hk
      · have hraw := HM.out.raw.boxed hc ⟨_, hb⟩
        have hok := HL.out.ok.shut HL.out.nodup (by rw [← HNUM.out]; exact hnum)
        refine LgRaw.at_ (G := G.shut) ?_ ?_ hok
        · have h := hraw
          rw [HIE.out] at h
          exact h
        · have : boxOf h { t with O := .slice none 0 0 } G.shut = ((boxOf h t { G with number := G.number + 1 }).setIfInBounds 4 (.slice none 0 0)).setIfInBounds 5 (.int .i64 0) := by
            simp [boxOf, Lg.shut, isum]
          rw [this]
          exact hb
end
end Go.Proofs.YtplpbbdakihnfaaGreat
end
