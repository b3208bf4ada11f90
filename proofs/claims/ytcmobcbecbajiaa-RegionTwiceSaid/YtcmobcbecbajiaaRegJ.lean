/- A log between two states: what lies in memory, whatever its keys say. -/
import Derived.Test.YtcmobcbecbajiaaRegI
namespace Go.Proofs.Ytcmobcbecbajiaa
open Go.RowKit
open Go.ChangeMaps (setBlock)
set_option linter.unusedSimpArgs false
set_option linter.unusedVariables false

/-- all but the struct's cells and what holds of each log -/
structure LgRaw (w : World) (h : DevH) (t : LgH) (G : Lg) : Prop where
  struc : ∃ cs, Blk w t.L tLog cs
  regs : ∃ ses : List (Nat × Value), ses.length = G.regs.length ∧ w.ownsRow 0 tSeal 2 t.R G.regs.length (secs ses) ∧ ∀ (i : Nat) (S : Sealed), G.regs[i]? = some S → ∃ v, ses[i]? = some (S.num, v) ∧ SlAt w t v S.l
  opn : w.ownsRow 0 tItem 5 t.O G.opn.length (its G.opn)
  map : MapIs skey w t.M (amap plv G.keys)
  ownL : t.own t.L
  ownM : t.own t.M
  ownR : ∀ k, t.R.ownBlock = some k → t.own k
  ownO : ∀ k, t.O.ownBlock = some k → t.own k
  lt : ∀ k, t.own k → k < w.heap.size
  far : t.M ≠ h.M

def boxOf (h : DevH) (t : LgH) (G : Lg) : Array Value := #[.pointer (some ⟨h.d, 0, none⟩), .int .i64 G.losses, .int .i64 G.first, t.R, t.O, .int .i64 (isum G.opn), .int .u64 G.number, .map (some t.M)]

section
variable {S : Nat → Prop} {w w' : World} {h : DevH} {t : LgH} {G : Lg}
theorem LgAt.raw (hl : LgAt w h t G) : LgRaw w h t G := ⟨⟨_, hl.box⟩, hl.regs, hl.opn, hl.map, hl.ownL, hl.ownM, hl.ownR, hl.ownO, hl.lt, hl.far⟩
theorem LgRaw.at_ (hl : LgRaw w h t G) (hb : Blk w t.L tLog (boxOf h t G)) (ok : G.Ok) : LgAt w h t G := ⟨hb, hl.regs, hl.opn, hl.map, hl.ownL, hl.ownM, hl.ownR, hl.ownO, hl.lt, hl.far, ok⟩
theorem LgRaw.chg (hl : LgRaw w h t G) (hc : Chg S w w') (hn : ∀ k, t.own k → ¬ S k) : LgRaw w' h t G :=
  { hl with
    struc := by obtain ⟨cs, hb⟩ := hl.struc; exact ⟨cs, hb.chg hc (hn _ hl.ownL)⟩
    regs := by
      obtain ⟨ses, h1, h2, h3⟩ := hl.regs
      refine ⟨ses, h1, own_chg h2 hc (fun k hk => hn k (hl.ownR k hk)), fun i S hS => ?_⟩
      obtain ⟨v, e, hv⟩ := h3 i S hS
      exact ⟨v, e, hv.chg hc (fun k hk _ => hn k hk)⟩
    opn := own_chg hl.opn hc (fun k hk => hn k (hl.ownO k hk))
    map := hl.map.chg hc (hn _ hl.ownM)
    lt := fun k hk => Nat.lt_of_lt_of_le (hl.lt k hk) hc.size }
theorem LgRaw.chgNo (hl : LgRaw w h t G) (hc : Chg No w w') : LgRaw w' h t G := hl.chg hc (fun _ _ h => h)
/-- only one block of another kind than the rows is changed: the struct's or the map's -/
theorem LgRaw.one {g : Nat} (hl : LgRaw w h t G) (hc : Chg (fun k => k = g) w w') (hg : ∀ cs T fz, w.heap[g]? = some (.cells cs T fz) → T = tLog) (hs : ∃ cs, Blk w' t.L tLog cs) {ks : Keys} (hm : MapIs skey w' t.M (amap plv ks)) : LgRaw w' h t { G with keys := ks } := by
  have hrow : ∀ {k T cs fz}, w.heap[k]? = some (.cells cs T fz) → T ≠ tLog → ¬ k = g := fun hk hT e => hT (hg _ _ _ (by rw [← e]; exact hk))
  have hown : ∀ {v : Value} {base e size n : Nat} {xs : List Value}, e ≠ tLog → w.ownsRow base e size v n xs → w'.ownsRow base e size v n xs := by
    intro v base e size n xs he ho
    refine own_chg ho hc (fun k hk => ?_)
    rcases ho.2 with ⟨e1, _⟩ | ⟨g', cap, cur, e1, _, hg', _⟩
    · rw [e1] at hk; simp [Value.ownBlock] at hk
    · rw [e1] at hk
      have : g' = k := by simpa [Value.ownBlock] using hk
      subst this
      exact hrow hg' he
  exact { hl with
    struc := hs
    regs := by
      obtain ⟨ses, h1, h2, h3⟩ := hl.regs
      refine ⟨ses, h1, hown (by decide) h2, fun i S hS => ?_⟩
      obtain ⟨v, e, A, c, h4, h5, h6, h7⟩ := h3 i S hS
      exact ⟨v, e, A, c, h4, h5, h6.chg hc (fun g cur fz hg => hrow hg (by decide)), h7⟩
    opn := hown (by decide) hl.opn
    map := hm
    lt := fun k hk => Nat.lt_of_lt_of_le (hl.lt k hk) hc.size }
/-- the struct is written -/
theorem LgRaw.boxed (hl : LgRaw w h t G) (hc : Chg (fun k => k = t.L) w w') (hs : ∃ cs, Blk w' t.L tLog cs) : LgRaw w' h t G := by
  obtain ⟨cs0, hb0⟩ := hl.struc
  exact hl.one (ks := G.keys) hc (fun cs T fz hg => by unfold Blk at hb0; rw [hg] at hb0; injection hb0 with hb0; injection hb0) hs (hl.map.chg hc (fun e => hl.map.ne_blk hb0 e))
/-- the map is written -/
theorem LgRaw.mapped (hl : LgRaw w h t G) (hc : Chg (fun k => k = t.M) w w') {ks : Keys} (hm : MapIs skey w' t.M (amap plv ks)) : LgRaw w' h t { G with keys := ks } := by
  obtain ⟨cs0, hb0⟩ := hl.struc
  exact hl.one hc (fun cs T fz hg => absurd rfl (hl.map.ne_blk hg)) ⟨cs0, hb0.chg hc (fun e => hl.map.ne_blk hb0 e.symm)⟩ hm
theorem LgRaw.nodup (hl : LgRaw w h t G) : (akeys G.keys).Nodup := by
  have := hl.map.nodup
  rwa [akeys_amap] at this
/-- 'l.keys[key]' -/
theorem look_map {ks : Keys} {M : Nat} (hm : MapIs skey w M (amap plv ks)) (key : ByteArray) : (Instr.lookup tKeys (.map (some M)) (.string key) false).run Try.prog w = .ok (plv ((aget ks key).getD .zero)) w := by
  have e := hm.lookup (keyLaw_string (Try.underlying9)) Try.underlying106 (zero_pl w) key false
  rw [e, aget_amap]
  cases aget ks key <;> rfl
end

/-- a region is sealed: its items stand in the row's place i -/
theorem LgAt.sealedRaw {w : World} {h : DevH} {t : LgH} {G : Lg} (hl : LgAt w h t G) {g n c i : Nat} (hR : t.R = .slice (some ⟨g, 0, none⟩) n c) (hi : i < G.regs.length) (num : Nat) :
    LgRaw ((w.setCell ⟨g, i * 2, none⟩ (.int .u64 num)).setCell ⟨g, i * 2 + 1, none⟩ t.O) h { t with O := .slice none 0 0 } { G with regs := G.regs.set i ⟨num, G.opn⟩, opn := [] } ∧ Chg (fun k => k = g) w ((w.setCell ⟨g, i * 2, none⟩ (.int .u64 num)).setCell ⟨g, i * 2 + 1, none⟩ t.O) := by
  have hc : Chg (fun k => k = g) w ((w.setCell ⟨g, i * 2, none⟩ (.int .u64 num)).setCell ⟨g, i * 2 + 1, none⟩ t.O) := Chg.setCell (S := fun k => k = g) (Chg.setCell (S := fun k => k = g) (Chg.refl _ _) (.inl rfl) _) (.inl rfl) _
  obtain ⟨_, hn, _, cur0, hcur0⟩ := hl.rowAt hR
  have hrd : ∀ {A k xs}, Rd w tItem A k xs → Rd ((w.setCell ⟨g, i * 2, none⟩ (.int .u64 num)).setCell ⟨g, i * 2 + 1, none⟩ t.O) tItem A k xs := fun h6 => h6.chg hc (fun g cur fz hg => hl.rowNe hR hg (by decide))
  refine ⟨⟨⟨_, hl.box.chg hc (hl.rowNe hR hl.box (by decide))⟩, ?_, World.ownsRow_nil _ _ _ _, hl.map.chg hc (fun e => hl.map.ne_blk hcur0 e), hl.ownL, hl.ownM, hl.ownR, fun k hk => by simp [Value.ownBlock] at hk, fun k hk => Nat.lt_of_lt_of_le (hl.lt k hk) hc.size, hl.far⟩, hc⟩
  obtain ⟨ses, h1, h2, h3⟩ := hl.regs
  refine ⟨ses.set i (num, t.O), by simpa using h1, ?_, ?_⟩
  · rw [secs_set ses i _ (by omega)]
    show World.ownsRow _ 0 tSeal 2 t.R (G.regs.set i ⟨num, G.opn⟩).length _
    rw [List.length_set]
    have h2' := h2
    rw [hR] at h2'
    obtain rfl : n = G.regs.length := hn
    have := ((h2'.stored (i * 2) (.int .u64 num)).1.stored (i * 2 + 1) t.O).1
    rw [hR]
    exact this
  · intro j S hS
    simp only at hS
    rw [List.getElem?_set] at hS
    by_cases hij : i = j
    · rw [if_pos hij, if_pos hi] at hS
      injection hS with hS
      subst hS
      obtain ⟨A, c', hO, hnc, hr⟩ := hl.openAs
      refine ⟨t.O, by rw [List.getElem?_set, if_pos hij, if_pos (by omega)], A, c', hO, hnc, hrd hr, ?_⟩
      intro g' off h0 hA
      refine ⟨hl.ownO g' ?_, by simp [Value.ownBlock]⟩
      rw [hO, hA]
      obtain ⟨g2, o2, cur, fz, e2, _, _⟩ := hr.2 (by show 0 < G.opn.length * 5; simp only at h0; omega)
      have hoff : off = 0 := by
        rcases hl.opn.2 with ⟨e, _⟩ | ⟨g3, cap, cur3, e, _⟩
        · rw [hO, hA] at e; cases e
        · rw [hO, hA] at e
          injection e with e1
          simp only [Option.some.injEq, Addr.mk.injEq, and_true] at e1
          exact e1.2
      subst hoff
      rfl
    · rw [if_neg hij] at hS
      obtain ⟨v, e, A, c', h4, h5, h6, h7⟩ := h3 j S hS
      exact ⟨v, by rw [List.getElem?_set, if_neg hij]; exact e, A, c', h4, h5, hrd h6, fun g' off h0 hA => ⟨(h7 g' off h0 hA).1, by simp [Value.ownBlock]⟩⟩

theorem Lg.Ok.shut {G : Lg} (ho : G.Ok) (hn : (akeys G.keys).Nodup) (hnum : G.number + 1 < 18446744073709551616) : G.shut.Ok := by
  have hi : G.next < G.regs.length := Nat.mod_lt _ ho.pos
  have hg := ho.gave hn hi
  have hlen : G.shut.regs.length = G.regs.length := by simp [Lg.shut]
  have hreg : ∀ j, G.shut.regs[j]? = if G.next = j then some ⟨G.number + 1, G.opn⟩ else G.regs[j]? := by
    intro j
    unfold Lg.shut
    simp only
    rw [List.getElem?_set]
    by_cases hj : G.next = j
    · rw [if_pos hj, if_pos hj, if_pos (by simpa using hi)]
    · rw [if_neg hj, if_neg hj, List.getElem?_set, if_neg hj]
  have hv : ∀ key p, aget G.given.2 key = some p → p.op = true → p.rg = 0 ∧ ∃ x, G.opn[p.ix]? = some x ∧ x.key = key := by
    intro key p hp hop
    have := hg.keys key p hp
    unfold Lg.plOk at this
    rw [if_pos hop] at this
    exact this
  refine { pos := by rw [hlen]; exact ho.pos, most := by rw [hlen]; exact ho.most, fit := by rw [hlen]; exact ho.fit, num := hnum, small := ?_, good := rfl, sum := by simp [Lg.shut, isum], keys := ?_ }
  · intro S hS
    rcases List.mem_or_eq_of_mem_set hS with hS | rfl
    · exact hg.small S hS
    · exact ⟨by have := ho.len; show G.opn.length ≤ 1000; omega, hnum⟩
  · intro key p hp
    have hp' : aget (moveK G.next G.given.2 G.opn) key = some p := hp
    rw [← moveT_all, moveT_get _ _ _ hv _ (Nat.le_refl _)] at hp'
    cases h0 : aget G.given.2 key with
    | none => rw [h0] at hp'; cases hp'
    | some q =>
      rw [h0] at hp'
      simp only [Option.map_some, Option.some.injEq] at hp'
      unfold Lg.plOk
      by_cases hop : q.op = true
      · obtain ⟨hr0, x, hx, hk⟩ := hv key q h0 hop
        have hlt := (List.getElem?_eq_some_iff.1 hx).1
        unfold moved at hp'
        rw [if_pos ⟨hop, hlt⟩] at hp'
        subst hp'
        simp only [Bool.false_eq_true, if_false]
        exact ⟨_, x, by rw [hreg, if_pos rfl], hx, hk⟩
      · unfold moved at hp'
        rw [if_neg (fun hh => hop hh.1)] at hp'
        subst hp'
        have := hg.keys key q h0
        unfold Lg.plOk at this
        rw [if_neg hop] at this ⊢
        obtain ⟨S, x, hS, hx, hk⟩ := this
        simp only at hS
        rw [List.getElem?_set] at hS
        by_cases hj : G.next = q.rg
        · rw [if_pos hj, if_pos hi] at hS
          injection hS with hS
          subst hS
          simp [Sealed.no] at hx
        · rw [if_neg hj] at hS
          exact ⟨S, x, by rw [hreg, if_neg hj]; exact hS, hx, hk⟩
end Go.Proofs.Ytcmobcbecbajiaa
