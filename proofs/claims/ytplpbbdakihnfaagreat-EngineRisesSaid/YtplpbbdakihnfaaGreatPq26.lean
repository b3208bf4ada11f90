/- Packed texts: EngPc, EngPd, EngPe, EngPf. -/
import Derived.Test.YtplpbbdakihnfaaGreatPq25
set_option linter.unusedSimpArgs false
set_option linter.unusedVariables false
section
namespace Go.Proofs.YtplpbbdakihnfaaGreat
open Go.RowKit
def PgIs (p : Pg) (l : List Item) : Prop := (p = .blank ∧ l = []) ∨ ∃ b, p = .full b ∧ listOf b = some l ∧ b.length = 384
theorem PageIs_iff {D : Dev} {i : Nat} {l : List Item} : PageIs D i l ↔ PgIs (D.page i) l := Iff.rfl
structure Bks (f : Nat) (Q : Item → Prop) (K : ByteArray → Prop) (B : Sto) (D : Dev) (ls : List (List Item)) : Prop where
  bk : Bkt f D B ls
  fine : Fine B ls
  q : ∀ (i : Nat) (l : List Item), ls[i]? = some l → ∀ x ∈ l, Q x
  fl : ∀ (i : Nat) (l : List Item), ls[i]? = some l → ∃ l', PgIs (D.fl (f + i)) l' ∧ ∀ x ∈ l', Q x ∧ B.may x.key = true ∧ (x ∈ l ∨ K x.key)
section
variable {f : Nat} {Q Q' : Item → Prop} {K : ByteArray → Prop} {B : Sto} {D D' : Dev} {ls : List (List Item)}
theorem Bks.mono (h : Bks f Q K B D ls) (hq : ∀ x, Q x → Q' x) : Bks f Q' K B D ls :=
  ⟨h.bk, h.fine, fun i l hi x hx => hq x (h.q i l hi x hx), fun i l hi => by obtain ⟨l', h1, h2⟩ := h.fl i l hi; exact ⟨l', h1, fun x hx => ⟨hq x (h2 x hx).1, (h2 x hx).2⟩⟩⟩
theorem Bks.get_ (h : Bks f Q K B D ls) (key : ByteArray) : ∃ l, ls[B.no key]? = some l := ⟨_, List.getElem?_eq_getElem (h.bk.no_ key)⟩
theorem Bks.may_ (h : Bks f Q K B D ls) {i : Nat} {l : List Item} (hi : ls[i]? = some l) {x : Item} (hx : x ∈ l) : B.may x.key = true := h.fine.may h.bk.len hi hx
theorem Bks.keep (h : Bks f Q K B D ls) (hk : Keep (fun i => f ≤ i ∧ i < f + B.fs.length) D D') : Bks f Q K B D' ls := by
  have hin : ∀ (i : Nat) (l : List Item), ls[i]? = some l → f ≤ f + i ∧ f + i < f + B.fs.length := by
    intro i l hi
    have := (List.getElem?_eq_some_iff.1 hi).1
    have := h.bk.len
    omega
  refine ⟨⟨hk.on.off, hk.on.armed, by rw [hk.los]; exact h.bk.los, h.bk.first, h.bk.len, h.bk.pos, by rw [hk.n]; exact h.bk.fits, fun i l hi => ?_⟩, h.fine, h.q, fun i l hi => ?_⟩
  · rw [PageIs_iff, hk.page _ (hin i l hi)]; exact h.bk.pg i l hi
  · rcases hk.fl _ (hin i l hi) with e | e
    · rw [e]; exact h.fl i l hi
    · rw [e]; exact ⟨l, h.bk.pg i l hi, fun x hx => ⟨h.q i l hi x hx, h.may_ hi hx, .inl hx⟩⟩
theorem add_may (B : Sto) (x : Item) (key : ByteArray) (h : B.may key = true) : (B.add x).may key = true := by
  unfold Sto.may at h ⊢
  rw [add_no]
  simp only [Sto.add]
  rw [List.getD_eq_getElem?_getD] at h ⊢
  rw [List.getElem?_modify]
  cases hb : B.fs[B.no key]? with
  | none => rw [hb] at h; simpa using h
  | some b =>
    rw [hb] at h
    simp only [Option.map_some, Option.getD_some] at h ⊢
    split
    · exact fmay_keeps _ _ _ h
    · exact h
theorem put_fl (D : Dev) (i : Nat) (p : Pg) (j : Nat) : (D.put i p).fl j = D.fl j := rfl
theorem Bks.put_ (h : Bks f Q K B D ls) {B' : Sto} {i : Nat} {l0 l : List Item} {b : List UInt8} (h0 : ls[i]? = some l0) (hbk : Bkt f (D.put (f + i) (.full b)) B' (ls.set i l)) (hfi : Fine B' (ls.set i l)) (hq : ∀ x ∈ l, Q x)
    (hm : ∀ key, B.may key = true → B'.may key = true) (hK : ∀ x ∈ l0, x ∈ l ∨ K x.key) : Bks f Q K B' (D.put (f + i) (.full b)) (ls.set i l) := by
  have hlt : i < ls.length := (List.getElem?_eq_some_iff.1 h0).1
  refine ⟨hbk, hfi, fun j l' hj x hx => ?_, fun j l' hj => ?_⟩
  · by_cases hij : i = j
    · subst hij
      rw [List.getElem?_set_self hlt] at hj
      injection hj with hj
      subst hj
      exact hq x hx
    · rw [List.getElem?_set_ne hij] at hj
      exact h.q j l' hj x hx
  · rw [put_fl]
    by_cases hij : i = j
    · subst hij
      rw [List.getElem?_set_self hlt] at hj
      injection hj with hj
      subst hj
      obtain ⟨l1, q1, q2⟩ := h.fl i l0 h0
      exact ⟨l1, q1, fun x hx => ⟨(q2 x hx).1, hm _ (q2 x hx).2.1, (q2 x hx).2.2.elim (fun hh => hK x hh) .inr⟩⟩
    · rw [List.getElem?_set_ne hij] at hj
      obtain ⟨l1, q1, q2⟩ := h.fl j l' hj
      exact ⟨l1, q1, fun x hx => ⟨(q2 x hx).1, hm _ (q2 x hx).2.1, (q2 x hx).2.2⟩⟩
theorem Bks.flush_ {D1 : Dev} (hbk : Bkt f D1 B ls) (hfi : Fine B ls) (hq : ∀ (i : Nat) (l : List Item), ls[i]? = some l → ∀ x ∈ l, Q x) (ho : D1.On) : Bks f Q K B D1.flush ls := by
  have hf := Keep.flush (A := fun _ => True) ho
  have hp : ∀ i, D1.flush.fl i = D1.page i := by
    intro i
    unfold Dev.flush
    rw [ho.spend.1, if_pos rfl, ho.spend.2]
    rfl
  refine ⟨⟨hf.on.off, hf.on.armed, by rw [hf.los]; exact hbk.los, hbk.first, hbk.len, hbk.pos, by rw [hf.n]; exact hbk.fits, fun i l hi => ?_⟩, hfi, hq, fun i l hi => ?_⟩
  · rw [PageIs_iff, hf.page _ trivial]; exact hbk.pg i l hi
  · rw [hp]; exact ⟨l, hbk.pg i l hi, fun x hx => ⟨hq i l hi x hx, hfi.may hbk.len hi hx, .inl hx⟩⟩
end
section
variable {f : Nat} {Q : Item → Prop} {K : ByteArray → Prop} {X : Eng} {D : Dev} {ls : List (List Item)}
theorem Bks.small (h : Bks f Q K X.B D ls) {x : Item} (hx : x.good = true) (hs : x.size ≤ 384) (hqx : Q x) {l : List Item} (hl : ls[X.B.no x.key]? = some l) (hK : ∀ y, Q y → y ≠ x → y.key = x.key → K x.key) (hnew : x ∉ l) :
    X.B.lE D (X.B.no x.key) = 0 ∧ X.B.putE D x = 0 ∧ X.psE D x = 0 ∧ Keep (fun i => i ≠ f + X.B.no x.key) D (X.psD D x) ∧ Bks f Q K (X.B.add x) (X.psD D x) (ls.set (X.B.no x.key) (pleft l x)) := by
  have ho : D.On := ⟨h.bk.off, h.bk.armed⟩
  have hp := h.bk.put hx hl
  obtain ⟨p1, p2, p3, p4⟩ := hp
  have hfi := h.fine.put x hs hl
  have hi : X.B.no x.key < X.B.fs.length := X.B.no_lt h.bk.pos x.key
  have hg := goods_pnew ((h.bk.pg _ l hl).good) hx
  have hlay := listOf_layB (pleft l x) 384 (by omega) (goods_drop hg _) (fitN_fits _)
  have eD : X.B.putD D x = D.put (f + X.B.no x.key) (.full (layB (pleft l x) ((384 : Nat) : Int))) := by
    have hnw : X.B.nw D x = pnew l x := by unfold Sto.nw pnew; rw [(h.bk.lE_ hl).2]
    unfold Sto.putD
    rw [hnw]
    exact (h.bk.write_ hi hlay.2).2
  have hk0 : Keep (fun i => i ≠ f + X.B.no x.key) D (X.B.putD D x) := by rw [eD]; exact Keep.put ho _ _ (fun i hi => hi)
  have hq : ∀ y ∈ pleft l x, Q y := fun y hy => by
    rcases pleft_sub hy with rfl | ⟨h1, _⟩
    · exact hqx
    · exact h.q _ l hl y h1
  by_cases hout : pout l x = []
  · have e1 : X.psD D x = X.B.putD D x := by unfold Eng.psD; rw [p3, hout]; rfl
    have e2 : X.psE D x = 0 := by unfold Eng.psE; rw [p3, hout]; rfl
    refine ⟨p1, p2, e2, by rw [e1]; exact hk0, ?_⟩
    rw [e1]
    have p4' := p4
    rw [eD] at p4 ⊢
    refine h.put_ hl p4 hfi hq (fun key hk => add_may X.B x key hk) (fun y hy => ?_)
    by_cases hyk : y.key = x.key
    · right
      rw [hyk]
      exact hK y (h.q _ l hl y hy) (fun e => hnew (e ▸ hy)) hyk
    · left
      have hpl : pleft l x = pnew l x := by have := pnew_split l x; rw [hout] at this; simpa using this
      rw [hpl]
      unfold pnew
      exact List.mem_append_left _ (mem_rid.2 ⟨hy, hyk⟩)
  · have hne : (X.B.out D x).length ≠ 0 := by rw [p3]; intro e; exact hout (List.length_eq_zero_iff.1 e)
    have ho2 : (X.B.putD D x).On := ⟨p4.off, p4.armed⟩
    have e1 : X.psD D x = (X.B.putD D x).flush := by unfold Eng.psD; rw [if_neg hne]
    have e2 : X.psE D x = 0 := by unfold Eng.psE; rw [if_neg hne]; exact ho2.changeE
    refine ⟨p1, p2, e2, by rw [e1]; exact hk0.trans (Keep.flush ho2), ?_⟩
    rw [e1]
    have hlt : X.B.no x.key < ls.length := (List.getElem?_eq_some_iff.1 hl).1
    refine Bks.flush_ p4 hfi (fun j l' hj y hy => ?_) ho2
    by_cases hij : X.B.no x.key = j
    · subst hij
      rw [List.getElem?_set_self hlt] at hj
      injection hj with hj
      subst hj
      exact hq y hy
    · rw [List.getElem?_set_ne hij] at hj
      exact h.q j l' hj y hy
theorem Bks.drop_ (h : Bks f Q K X.B D ls) (key : ByteArray) {l : List Item} (hl : ls[X.B.no key]? = some l) (hK : ∀ y, Q y → y.key = key → K key) :
    X.B.lE D (X.B.no key) = 0 ∧ X.B.dropE D key = (if rid l key = l then 5 else 0) ∧ Keep (fun i => i ≠ f + X.B.no key) D (X.B.dropD D key) ∧ Bks f Q K X.B (X.B.dropD D key) (ls.set (X.B.no key) (rid l key)) := by
  have ho : D.On := ⟨h.bk.off, h.bk.armed⟩
  obtain ⟨p1, p2, p4⟩ := h.bk.drop key hl
  have hll := h.bk.lE_ hl
  have hi : X.B.no key < X.B.fs.length := X.B.no_lt h.bk.pos key
  have hre : X.B.rest D key = rid l key := by unfold Sto.rest; rw [hll.2]
  have hg := goods_rid ((h.bk.pg _ l hl).good) key
  have hlay := listOf_layB (rid l key) 384 (by omega) hg (Nat.le_trans (records_rid l key) (h.bk.pg _ l hl).le)
  have hfi := h.fine.drop key hl
  refine ⟨p1, p2, ?_⟩
  by_cases hs : rid l key = l
  · have e : X.B.dropD D key = D := by unfold Sto.dropD; rw [hre, hll.2, if_pos (by rw [hs])]
    have e2 : ls.set (X.B.no key) (rid l key) = ls := by
      rw [hs]
      apply List.ext_getElem?
      intro j
      by_cases hj : X.B.no key = j
      · subst hj; rw [List.getElem?_set_self (h.bk.no_ key), hl]
      · rw [List.getElem?_set_ne hj]
    rw [e, e2]
    exact ⟨Keep.refl ho, h⟩
  · have e : X.B.dropD D key = D.put (f + X.B.no key) (.full (layB (rid l key) ((384 : Nat) : Int))) := by
      unfold Sto.dropD
      rw [hre, hll.2, if_neg (fun e => hs (rid_same e))]
      exact (h.bk.write_ hi hlay.2).2
    rw [e] at p4 ⊢
    refine ⟨Keep.put ho _ _ (fun i hi => hi), h.put_ hl p4 hfi (fun y hy => h.q _ l hl y (mem_rid.1 hy).1) (fun _ hk => hk) (fun y hy => ?_)⟩
    by_cases hyk : y.key = key
    · right; rw [hyk]; exact hK y (h.q _ l hl y hy) hyk
    · left; exact mem_rid.2 ⟨hy, hyk⟩
theorem Bks.tell (h : Bks f Q K X.B D ls) (key : ByteArray) {l : List Item} (hl : ls[X.B.no key]? = some l) : X.B.get D key = (match l.find? (keyed key) with | some x => (x, 0) | none => (Item.zero, 5)) := by
  have hll := h.bk.lE_ hl
  unfold Sto.get
  cases hm : X.B.may key with
  | true =>
    simp only [if_true]
    rw [if_pos hll.1, hll.2]
    cases l.find? (keyed key) <;> rfl
  | false =>
    simp only [Bool.false_eq_true, if_false]
    cases hf : l.find? (keyed key) with
    | none => rfl
    | some x =>
      exfalso
      have h1 := List.mem_of_find?_eq_some hf
      have h2 : x.key = key := by have := List.find?_some hf; simpa [keyed] using this
      have h3 := h.may_ hl h1
      rw [h2, hm] at h3
      cases h3
end
end Go.Proofs.YtplpbbdakihnfaaGreat
end

section
namespace Go.Proofs.YtplpbbdakihnfaaGreat
open Go.RowKit
structure Cov (C : ByteArray → Prop) (G : Lg) : Prop where
  non : ∀ key, aget G.keys key = none → ∀ p, G.Has key p → C key
  som : ∀ key p, aget G.keys key = some p → G.Has key p ∧ ∀ q, G.Has key q → G.elder q p
theorem Fresh.cov {G : Lg} (h : Fresh G) (C : ByteArray → Prop) : Cov C G := ⟨fun key hk p hp => (h.non key hk p hp).elim, h.som⟩
theorem Cov.mono {C C' : ByteArray → Prop} {G : Lg} (h : Cov C G) (hc : ∀ k, C k → C' k) : Cov C' G := ⟨fun key hk p hp => hc _ (h.non key hk p hp), h.som⟩
theorem Cov.add {C : ByteArray → Prop} {G : Lg} (hn : Nums G) (h : Cov C G) (x : Item) : Cov C (G.add x) ∧ Nums (G.add x) := by
  have hH : ∀ key q, x.key ≠ key → (G.add x).Has key q → G.Has key q := by
    rintro key q hne ⟨y, hy, ⟨h1, h2, h3⟩ | h⟩
    · have h3' : (G.opn ++ [x])[q.ix]? = some y := h3
      rcases Nat.lt_or_ge q.ix G.opn.length with hlt | hge
      · rw [List.getElem?_append_left hlt] at h3'
        exact ⟨y, hy, .inl ⟨h1, h2, h3'⟩⟩
      · rw [List.getElem?_append_right hge] at h3'
        rcases Nat.eq_or_lt_of_le hge with e | e
        · rw [← e] at h3'
          simp at h3'
          exact absurd (by rw [h3']; exact hy) hne
        · rw [List.getElem?_eq_none (by simp; omega)] at h3'
          cases h3'
    · exact ⟨y, hy, .inr h⟩
  have hH2 : ∀ key q, G.Has key q → (G.add x).Has key q := by
    rintro key q ⟨y, hy, ⟨h1, h2, h3⟩ | h⟩
    · refine ⟨y, hy, .inl ⟨h1, h2, ?_⟩⟩
      show (G.opn ++ [x])[q.ix]? = some y
      rw [List.getElem?_append_left (List.getElem?_eq_some_iff.1 h3).1]
      exact h3
    · exact ⟨y, hy, .inr h⟩
  refine ⟨⟨fun key hk p hp => ?_, fun key p hk => ?_⟩, hn⟩
  · have hk' : aget (aset G.keys x.key ⟨true, 0, G.opn.length⟩) key = none := hk
    rw [aget_aset] at hk'
    split at hk'
    · cases hk'
    · rename_i hne
      exact h.non _ hk' p (hH _ _ hne hp)
  · have hk' : aget (aset G.keys x.key ⟨true, 0, G.opn.length⟩) key = some p := hk
    rw [aget_aset] at hk'
    split at hk'
    · rename_i he
      injection hk' with hk'
      subst hk'
      refine ⟨⟨x, he, .inl ⟨rfl, rfl, ?_⟩⟩, fun q hq => ?_⟩
      · show (G.opn ++ [x])[G.opn.length]? = some x
        rw [List.getElem?_append_right (Nat.le_refl _), Nat.sub_self]; rfl
      · obtain ⟨y, hy, ⟨h1, h2, h3⟩ | ⟨h1, h2, h3⟩⟩ := hq
        · have hl := (List.getElem?_eq_some_iff.1 h3).1
          have hl' : q.ix < (G.opn ++ [x]).length := hl
          rw [List.length_append] at hl'
          simp only [List.length_singleton] at hl'
          right
          refine ⟨?_, by show q.ix ≤ G.opn.length; omega⟩
          unfold Lg.rank
          rw [h1]; rfl
        · left
          have := (hn _ h2).2.1
          unfold Lg.rank
          rw [h1]
          show rnum G.regs q.rg < G.number + 1
          omega
    · rename_i hne
      obtain ⟨hp, hm⟩ := h.som _ _ hk'
      exact ⟨hH2 _ _ hp, fun q hq => hm q (hH _ _ hne hq)⟩
theorem Cov.shut {C : ByteArray → Prop} {G : Lg} (ho : G.Ok) (hd : (akeys G.keys).Nodup) (hn : Nums G) (h : Cov C G) : Cov C G.shut := by
  have hp := ho.pos
  have hopn : ∀ key q, G.shut.Has key q → q.op = false ∧ ((q.rg = G.next ∧ G.Has key ⟨true, 0, q.ix⟩) ∨ (q.rg ≠ G.next ∧ G.Has key q)) := by
    rintro key q ⟨y, hy, ⟨h1, h2, h3⟩ | ⟨h1, h2, h3⟩⟩
    · have h3' : ([] : List Item)[q.ix]? = some y := h3
      simp at h3'
    · refine ⟨h1, ?_⟩
      rw [rnum_shut G hp] at h2
      rw [rl_shut G hp] at h3
      by_cases hq : q.rg = G.next
      · rw [if_pos hq] at h3
        exact .inl ⟨hq, y, hy, .inl ⟨rfl, rfl, h3⟩⟩
      · rw [if_neg hq] at h2 h3
        exact .inr ⟨hq, y, hy, .inr ⟨h1, h2, h3⟩⟩
  have hrk : ∀ q : Pl, q.op = false → G.shut.rank q = if q.rg = G.next then G.number + 1 else rnum G.regs q.rg := by
    intro q hq
    unfold Lg.rank
    rw [hq, if_neg (by simp), rnum_shut G hp]
  have hrkG : ∀ q : Pl, q.op = false → G.rank q = rnum G.regs q.rg := by
    intro q hq
    unfold Lg.rank
    rw [hq, if_neg (by simp)]
  refine ⟨fun key hk q hq => ?_, fun key p1 hk => ?_⟩
  · rw [shut_get G ho hd] at hk
    obtain ⟨hqo, hq⟩ := hopn key q hq
    cases hg : aget G.keys key with
    | none =>
      rcases hq with ⟨_, hq⟩ | ⟨_, hq⟩
      · exact h.non _ hg _ hq
      · exact h.non _ hg _ hq
    | some p =>
      rw [hg] at hk
      simp only at hk
      split at hk
      · cases hk
      · rename_i hop
        have hop' : p.op = false := by simpa using hop
        split at hk
        · rename_i hrg
          exfalso
          obtain ⟨⟨x, _, hx⟩, hmax⟩ := h.som _ _ hg
          rcases hx with ⟨h1, _⟩ | ⟨_, h2, _⟩
          · rw [hop'] at h1; cases h1
          · have hnm := hn _ h2
            rcases hq with ⟨_, hq⟩ | ⟨hne, hq⟩
            · have := hmax _ hq
              unfold Lg.elder at this
              rw [hrkG p hop'] at this
              have e : G.rank ⟨true, 0, q.ix⟩ = G.number + 1 := rfl
              rw [e] at this
              omega
            · have := hmax _ hq
              unfold Lg.elder at this
              rw [hrkG p hop', hrkG q hqo] at this
              obtain ⟨y, _, hy⟩ := hq
              rcases hy with ⟨h1, _⟩ | ⟨_, h3, _⟩
              · rw [hqo] at h1; cases h1
              · have hnq := hn _ h3
                have h5 : rnum G.regs p.rg % G.regs.length = (G.number + 1) % G.regs.length := by rw [hnm.1, hrg]; rfl
                have h6 := mod_next h5 hnm.2.1 hnm.2.2
                have h7 : rnum G.regs q.rg = rnum G.regs p.rg := by omega
                apply hne
                rw [← hnq.1, h7, hnm.1]
                exact hrg
        · cases hk
  · rw [shut_get G ho hd] at hk
    cases hg : aget G.keys key with
    | none => rw [hg] at hk; cases hk
    | some p =>
      rw [hg] at hk
      simp only at hk
      obtain ⟨⟨x, hxk, hx⟩, hmax⟩ := h.som _ _ hg
      by_cases hop : p.op = true
      · rw [if_pos hop] at hk
        injection hk with hk
        subst hk
        rcases hx with ⟨_, _, hx⟩ | ⟨h1, _⟩
        · refine ⟨⟨x, hxk, .inr ⟨rfl, ?_, ?_⟩⟩, fun q hq => ?_⟩
          · rw [rnum_shut G hp, if_pos rfl]; omega
          · rw [rl_shut G hp, if_pos rfl]; exact hx
          · obtain ⟨hqo, hq⟩ := hopn key q hq
            unfold Lg.elder
            rw [hrk q hqo, hrk _ rfl, if_pos rfl]
            rcases hq with ⟨hr, hq⟩ | ⟨hr, hq⟩
            · rw [if_pos hr]
              right
              refine ⟨rfl, ?_⟩
              have := hmax _ hq
              unfold Lg.elder Lg.rank at this
              rw [hop] at this
              simp only [if_true] at this
              show q.ix ≤ p.ix
              omega
            · rw [if_neg hr]
              left
              obtain ⟨y, _, hy⟩ := hq
              rcases hy with ⟨h1, _⟩ | ⟨_, h3, _⟩
              · rw [hqo] at h1; cases h1
              · have := (hn _ h3).2.1; omega
        · rw [hop] at h1; cases h1
      · rw [if_neg hop] at hk
        have hop' : p.op = false := by simpa using hop
        split at hk
        · cases hk
        · rename_i hrg
          injection hk with hk
          subst hk
          rcases hx with ⟨h1, _⟩ | ⟨_, h2, h3⟩
          · exact absurd h1 hop
          · refine ⟨⟨x, hxk, .inr ⟨hop', ?_, ?_⟩⟩, fun q hq => ?_⟩
            · rw [rnum_shut G hp, if_neg hrg]; exact h2
            · rw [rl_shut G hp, if_neg hrg]; exact h3
            · obtain ⟨hqo, hq⟩ := hopn key q hq
              unfold Lg.elder
              rw [hrk q hqo, hrk _ hop', if_neg hrg]
              rcases hq with ⟨hr, hq⟩ | ⟨hr, hq⟩
              · exfalso
                have := hmax _ hq
                unfold Lg.elder at this
                rw [hrkG p hop'] at this
                have e : G.rank ⟨true, 0, q.ix⟩ = G.number + 1 := rfl
                rw [e] at this
                have := (hn _ h2).2.1
                omega
              · rw [if_neg hr]
                have := hmax _ hq
                unfold Lg.elder at this
                rw [hrkG p hop', hrkG q hqo] at this
                exact this
theorem Cov.drop {C : ByteArray → Prop} {G : Lg} (hd : (akeys G.keys).Nodup) (h : Cov C G) (key : ByteArray) (hc : ∀ p, G.Has key p → C key) : Cov C (G.drop key) := by
  refine ⟨fun k hk p hp => ?_, fun k p hk => ?_⟩
  · have hk' : aget (adel G.keys key) k = none := hk
    rw [aget_adel _ hd] at hk'
    split at hk'
    · rename_i e; rw [← e] at hp ⊢; exact hc p hp
    · exact h.non k hk' p hp
  · have hk' : aget (adel G.keys key) k = some p := hk
    rw [aget_adel _ hd] at hk'
    split at hk'
    · cases hk'
    · exact h.som k p hk'
theorem Cov.known {C : ByteArray → Prop} {G : Lg} (h : Cov C G) {key : ByteArray} {p : Pl} (hp : G.Has key p) : C key ∨ G.has key = true := by
  unfold Lg.has
  cases hk : aget G.keys key with
  | none => exact .inl (h.non key hk p hp)
  | some q => exact .inr rfl
def RgIs (P : Nat → Pg) (S : Sealed) : Prop := (S = .no ∧ ∀ k, k < 4 → P k = .blank) ∨ (0 < S.num ∧ S.num < 18446744073709551616 ∧ SealedAt P S.num S.l ∧ goods S.l = true ∧ isum S.l ≤ 1472)
structure Lgs (Q : Item → Prop) (C : ByteArray → Prop) (c : Nat) (G : Lg) (D : Dev) : Prop where
  live : Live G D
  nums : Nums G
  cov : Cov C G
  few : c ≤ 1000000
  num : G.number ≤ c
  q : ∀ (i : Nat) (S : Sealed), G.regs[i]? = some S → ∀ x ∈ S.l, Q x
  qo : ∀ x ∈ G.opn, Q x
  pg : ∀ (i : Nat) (S : Sealed), G.regs[i]? = some S → RgIs (D.rpg G.first i) S
  still : ∀ i, G.first ≤ i → i < G.first + 4 * G.regs.length → D.wt i = none
section
variable {Q Q' : Item → Prop} {C C' : ByteArray → Prop} {c c' : Nat} {G : Lg} {D D' : Dev}
theorem Lgs.mono (h : Lgs Q C c G D) (hq : ∀ x, Q x → Q' x) (hC : ∀ k, C k → C' k) (hc : c ≤ c') (hf : c' ≤ 1000000) : Lgs Q' C' c' G D :=
  ⟨h.live, h.nums, h.cov.mono hC, hf, Nat.le_trans h.num hc, fun i S hS x hx => hq x (h.q i S hS x hx), fun x hx => hq x (h.qo x hx), h.pg, h.still⟩
theorem Lgs.lt (h : Lgs Q C c G D) : G.number + 1 < 18446744073709551616 := by have := h.num; have := h.few; omega
theorem Lgs.keep (h : Lgs Q C c G D) (hk : Keep (fun i => G.first ≤ i ∧ i < G.first + 4 * G.regs.length) D D') : Lgs Q C c G D' := by
  refine ⟨⟨h.live.ok, h.live.nd, hk.on, by rw [hk.los]; exact h.live.los, by rw [hk.n]; exact h.live.fit⟩, h.nums, h.cov, h.few, h.num, h.q, h.qo, fun i S hS => ?_, fun i h1 h2 => hk.still ⟨h1, h2⟩ (h.still i h1 h2)⟩
  have hlt := (List.getElem?_eq_some_iff.1 hS).1
  have e : ∀ k, k < 4 → D'.rpg G.first i k = D.rpg G.first i k := fun k hk4 => hk.page _ (by show G.first ≤ G.first + 4 * i + k ∧ G.first + 4 * i + k < _; omega)
  rcases h.pg i S hS with ⟨h1, h2⟩ | ⟨h1, h2, h3, h4, h5⟩
  · exact .inl ⟨h1, fun k hk4 => (e k hk4).trans (h2 k hk4)⟩
  · exact .inr ⟨h1, h2, fun k hk4 => (e k hk4).trans (h3 k hk4), h4, h5⟩
theorem Lgs.has_q (h : Lgs Q C c G D) {key : ByteArray} {p : Pl} (hp : G.Has key p) : ∃ y, Q y ∧ y.key = key := by
  obtain ⟨y, hy, ⟨_, _, h3⟩ | ⟨_, _, h3⟩⟩ := hp
  · exact ⟨y, h.qo y (List.mem_of_getElem? h3), hy⟩
  · unfold rl at h3
    rw [List.getD_eq_getElem?_getD] at h3
    cases hS : G.regs[p.rg]? with
    | none => rw [hS] at h3; cases h3
    | some S =>
      rw [hS] at h3
      exact ⟨y, h.q _ S hS y (List.mem_of_getElem? h3), hy⟩
theorem Lgs.drop (h : Lgs Q C c G D) (key : ByteArray) (hc : ∀ p, G.Has key p → C key) : Lgs Q C c (G.drop key) D :=
  ⟨⟨h.live.ok.drop h.live.nd key, nodup_adel _ _ h.live.nd, h.live.on, h.live.los, h.live.fit⟩, h.nums, h.cov.drop h.live.nd key hc, h.few, h.num, h.q, h.qo, h.pg, h.still⟩
theorem Lgs.add (h : Lgs Q C c G D) {x : Item} (hx : x.good = true) (hs : isum G.opn + x.size ≤ 1472) (hq : Q x) : Lgs Q C c (G.add x) D := by
  obtain ⟨c1, c2⟩ := h.cov.add h.nums x
  refine ⟨⟨h.live.ok.add hx hs, nodup_aset _ _ _ h.live.nd, h.live.on, h.live.los, h.live.fit⟩, c2, c1, h.few, h.num, h.q, fun y hy => ?_, h.pg, h.still⟩
  have hy' : y ∈ G.opn ++ [x] := hy
  rcases List.mem_append.1 hy' with hy' | hy'
  · exact h.qo y hy'
  · rw [List.mem_singleton.1 hy']; exact hq
theorem Lgs.sl (h : Lgs Q C c G D) (hc : c + 1 ≤ 1000000) : (G.sl D).e = 0 ∧ (G.sl D).G.opn = [] ∧ Lgs Q C (c + 1) (G.sl D).G (G.sl D).D ∧ Keep (fun i => i < G.first ∨ G.first + 4 * G.regs.length ≤ i) D (G.sl D).D ∧
    (G.sl D).G.first = G.first ∧ (G.sl D).G.regs.length = G.regs.length ∧ (G.sl D).G.losses = G.losses ∧ (G.opn = [] → G.sl D = ⟨G, D, [], 0⟩) := by
  have hs := h.live.sl h.lt
  refine ⟨hs.1, sl_opn hs.1, ?_⟩
  by_cases h0 : G.opn = []
  · rw [hs.2.2.1 h0]
    exact ⟨h.mono (fun _ h => h) (fun _ h => h) (Nat.le_succ c) hc, Keep.refl h.live.on, rfl, rfl, rfl, fun _ => rfl⟩
  · have e := hs.2.2.2 h0
    have hw := h.live.wrote
    have hnx := h.live.next
    have hl := hs.2.1
    rw [e] at hl ⊢
    have hf := h.live.fit
    have hwr := h.live.on.wr (base := G.first + 4 * G.next) (n := G.number + 1) (records G.opn) (by omega)
    have hgt : ∀ i, G.shut.regs[i]? = if i = G.next then some ⟨G.number + 1, G.opn⟩ else G.regs[i]? := by
      intro i
      show ((G.regs.set G.next .no).set G.next ⟨G.number + 1, G.opn⟩)[i]? = _
      by_cases hi : i = G.next
      · subst hi; rw [if_pos rfl, List.getElem?_set_self (by simpa using hnx)]
      · rw [if_neg hi, List.getElem?_set_ne (Ne.symm hi), List.getElem?_set_ne (Ne.symm hi)]
    refine ⟨⟨hl, h.nums.shut h.live.ok.pos, h.cov.shut h.live.ok h.live.nd h.nums, hc, Nat.succ_le_succ h.num, fun i S hS x hx => ?_, fun x hx => (by cases hx), fun i S hS => ?_, fun i _ _ => hw.2.2.2.2.2.2 i⟩, ?_, rfl, len_shut G, rfl, fun hh => absurd hh h0⟩
    · rw [hgt] at hS
      split at hS
      · injection hS with hS; subst hS; exact h.qo x hx
      · exact h.q i S hS x hx
    · rw [hgt] at hS
      split at hS
      · rename_i hi
        injection hS with hS
        subst hS
        subst hi
        exact .inr ⟨Nat.succ_pos _, h.lt, hw.2.2.2.2.1, h.live.ok.good, h.live.ok.sum⟩
      · rename_i hi
        have e2 : ∀ k, k < 4 → (G.wrote D).1.rpg G.shut.first i k = D.rpg G.first i k := fun k hk4 => hw.2.2.2.2.2.1 i hi k hk4
        rcases h.pg i S hS with ⟨h1, h2⟩ | ⟨h1, h2, h3, h4, h5⟩
        · exact .inl ⟨h1, fun k hk4 => (e2 k hk4).trans (h2 k hk4)⟩
        · exact .inr ⟨h1, h2, fun k hk4 => (e2 k hk4).trans (h3 k hk4), h4, h5⟩
    · have hpg : ∀ i, (i < G.first ∨ G.first + 4 * G.regs.length ≤ i) → (G.wrote D).1.page i = D.page i := fun i hi => hwr.2.2.2.2.2.1 i (by omega)
      refine ⟨hw.2.2.1, hw.2.1, hw.2.2.2.1, hpg, fun i _ => .inr (hw.2.2.2.2.2.2 i), fun i hi => .inr ?_⟩
      rw [← hpg i hi]
      exact Dev.On.fl_page (hw.2.2.2.2.2.2 i)
theorem Lgs.put (h : Lgs Q C c G D) (hc : c + 1 ≤ 1000000) {x : Item} (hf : Lg.fits x = true) (hq : Q x) : (G.put D x).e = 0 ∧ Lgs Q C (c + 1) (G.put D x).G (G.put D x).D ∧ Keep (fun i => i < G.first ∨ G.first + 4 * G.regs.length ≤ i) D (G.put D x).D ∧
    (G.put D x).G.first = G.first ∧ (G.put D x).G.regs.length = G.regs.length ∧ (G.put D x).G.losses = G.losses ∧ (G.put D x).G.view x.key = some x ∧ (∀ key, key ≠ x.key → (G.put D x).G.view key = none ∨ (G.put D x).G.view key = G.view key) := by
  obtain ⟨hg, hsz⟩ := fits_good hf
  unfold Lg.put
  rw [hf]
  simp only [if_true]
  by_cases hs : isum G.opn + x.size ≤ 1472
  · rw [if_pos hs]
    refine ⟨rfl, (h.add hg hs hq).mono (fun _ h => h) (fun _ h => h) (Nat.le_succ c) hc, Keep.refl h.live.on, rfl, rfl, rfl, ?_, fun key hk => ?_⟩
    · show (G.add x).view x.key = some x
      rw [Lg.view_add G h.live.ok, if_pos rfl]
    · right
      show (G.add x).view key = _
      rw [Lg.view_add G h.live.ok, if_neg (Ne.symm hk)]
  · rw [if_neg hs]
    obtain ⟨q1, q2, q3, q4, q5, q6, q7, _⟩ := h.sl hc
    rw [if_pos q1]
    refine ⟨rfl, q3.add hg (by rw [q2]; simpa [isum] using hsz) hq, q4, q5, q6, q7, ?_, fun key hk => ?_⟩
    · show ((G.sl D).G.add x).view x.key = some x
      rw [Lg.view_add _ q3.live.ok, if_pos rfl]
    · show ((G.sl D).G.add x).view key = none ∨ ((G.sl D).G.add x).view key = G.view key
      rw [Lg.view_add _ q3.live.ok, if_neg (Ne.symm hk)]
      have hsl := h.live.sl h.lt
      by_cases h0 : G.opn = []
      · rw [hsl.2.2.1 h0]; exact .inr rfl
      · rw [hsl.2.2.2 h0]
        show G.shut.view key = none ∨ G.shut.view key = _
        rw [Lg.view_shut G h.live.ok h.live.nd]
        split
        · exact .inl rfl
        · exact .inr rfl
end
end Go.Proofs.YtplpbbdakihnfaaGreat
end

section
namespace Go.Proofs.YtplpbbdakihnfaaGreat
open Go.RowKit
def mkOk (l : List Mk) : Prop := l.length ≤ 23 ∧ ∀ m ∈ l, m.1 < 18446744073709551616 ∧ m.2 < 18446744073709551616
structure Jns (J : Jn) (D : Dev) : Prop where
  used : J.used ≤ J.pages
  gen : J.gen < 18446744073709551616
  pg : ∃ ls : List (List Mk), ls.length = J.used ∧ J.marks = note [] ls.flatten ∧ ∀ (i : Nat) (l : List Mk), ls[i]? = some l → D.page (J.first + i) = .full (Dev.pad (jnPage J.gen l)) ∧ mkOk l
  rest : ∀ i, J.used ≤ i → i < J.pages → D.page (J.first + i) = .blank ∨ ∃ (g' : Nat) (l' : List Mk), D.page (J.first + i) = .full (Dev.pad (jnPage g' l')) ∧ g' < J.gen ∧ mkOk l'
  still : ∀ i, J.first ≤ i → i < J.first + J.pages → D.wt i = none
section
variable {J : Jn} {D D' : Dev}
theorem Jns.keep (h : Jns J D) (hk : Keep (fun i => J.first ≤ i ∧ i < J.first + J.pages) D D') : Jns J D' := by
  refine ⟨h.used, h.gen, ?_, fun i h1 h2 => ?_, fun i h1 h2 => hk.still ⟨h1, h2⟩ (h.still i h1 h2)⟩
  · obtain ⟨ls, q1, q2, q3⟩ := h.pg
    refine ⟨ls, q1, q2, fun i l hi => ?_⟩
    have hlt := (List.getElem?_eq_some_iff.1 hi).1
    have := h.used
    rw [hk.page _ ⟨by omega, by omega⟩]
    exact q3 i l hi
  · rw [hk.page _ ⟨by omega, by omega⟩]; exact h.rest i h1 h2
theorem Jns.lose (h : Jns J D) (a : Int) : Jns { J with losses := a } D := ⟨h.used, h.gen, h.pg, h.rest, h.still⟩
theorem Jns.begun (h : Jns J D) {gen : Nat} (hg : J.gen < gen) (hl : gen < 18446744073709551616) : Jns (J.begun gen) D := by
  refine ⟨Nat.zero_le _, hl, ⟨[], rfl, rfl, fun i l hi => by cases hi⟩, fun i _ h2 => ?_, h.still⟩
  have h2' : i < J.pages := h2
  by_cases hu : J.used ≤ i
  · rcases h.rest i hu h2' with e | ⟨g', l', e1, e2, e3⟩
    · exact .inl e
    · exact .inr ⟨g', l', e1, Nat.lt_trans e2 hg, e3⟩
  · obtain ⟨ls, q1, q2, q3⟩ := h.pg
    have hlt : i < ls.length := by omega
    obtain ⟨e1, e2⟩ := q3 i _ (List.getElem?_eq_getElem hlt)
    exact .inr ⟨J.gen, _, e1, hg, e2⟩
theorem Jns.add (h : Jns J D) (ho : D.On) (hls : J.losses = D.losses) (hf : J.first + J.pages ≤ D.n) {l : List Mk} (hl : mkOk l) :
    (J.addE D l = 0 ∧ J.used < J.pages ∧ J.addJ D l = { J with used := J.used + 1, marks := note J.marks l } ∧ Jns (J.addJ D l) (J.addD D l) ∧ Keep (fun i => i ≠ J.first + J.used) D (J.addD D l)) ∨
    (J.addE D l = 7 ∧ J.used = J.pages ∧ J.addJ D l = J ∧ J.addD D l = D) := by
  by_cases hr : J.room = 0
  · right
    refine ⟨by unfold Jn.addE; rw [if_neg (by simp [hls]), if_pos hr], by unfold Jn.room at hr; have := h.used; omega, by unfold Jn.addJ; rw [if_pos (.inr (.inl hr))], by unfold Jn.addD; rw [if_pos (.inr hr)]⟩
  · left
    have hlt : J.used < J.pages := by unfold Jn.room at hr; omega
    have hst := Keep.store (A := fun i => i ≠ J.first + J.used) ho (k := J.first + J.used) (by omega) (b := jnPage J.gen l) (jnPage_le J.gen l hl.1) (fun i hi => hi)
    have eW : J.wD D l = D.write ((J.first + J.used : Nat) : Int) (jnPage J.gen l) := rfl
    have e1 : J.addE D l = 0 := by unfold Jn.addE; rw [if_neg (by simp [hls]), if_neg hr, if_neg (by rw [hst.2.2.1]; simp), eW]; exact hst.2.1
    have e2 : J.addJ D l = { J with used := J.used + 1, marks := note J.marks l } := by
      unfold Jn.addJ
      rw [if_neg (fun h9 => h9.elim (fun h1 => h1 hls) (fun h9 => h9.elim hr (fun h1 => h1 hst.2.2.1))), eW, if_neg (by rw [hst.2.1]; simp)]
    have e3 : J.addD D l = (D.write ((J.first + J.used : Nat) : Int) (jnPage J.gen l)).flush := by
      unfold Jn.addD
      rw [if_neg (fun h9 => h9.elim (fun h1 => h1 hls) hr), if_neg (by rw [hst.2.2.1]; simp), eW]
    refine ⟨e1, hlt, e2, ?_, by rw [e3]; exact hst.1⟩
    rw [e2, e3]
    have hp := hst.2.2.2.1
    refine ⟨hlt, h.gen, ?_, fun i h1 h2 => ?_, fun i _ _ => hst.2.2.2.2 i⟩
    · obtain ⟨ls, q1, q2, q3⟩ := h.pg
      refine ⟨ls ++ [l], by rw [List.length_append, q1]; rfl, by rw [List.flatten_append, note_append, ← q2]; simp, fun i l' hi => ?_⟩
      show (D.write ((J.first + J.used : Nat) : Int) (jnPage J.gen l)).flush.page (J.first + i) = _ ∧ _
      rw [hp]
      by_cases hiu : i < ls.length
      · rw [List.getElem?_append_left hiu] at hi
        rw [if_neg (by omega)]
        exact q3 i l' hi
      · rw [List.getElem?_append_right (by omega)] at hi
        have e0 : i - ls.length = 0 := by
          by_cases h9 : i - ls.length = 0
          · exact h9
          · rw [List.getElem?_eq_none (by simp; omega)] at hi; cases hi
        rw [e0] at hi
        injection hi with hi
        subst hi
        rw [if_pos (by omega)]
        exact ⟨rfl, hl⟩
    · show (D.write ((J.first + J.used : Nat) : Int) (jnPage J.gen l)).flush.page (J.first + i) = _ ∨ _
      have h1' : J.used + 1 ≤ i := h1
      rw [hp, if_neg (by omega)]
      exact h.rest i (by omega) h2
theorem jnRead_other {g g' : Nat} {l : List Mk} (hg : g' < 18446744073709551616) (hl : mkOk l) (hne : g' ≠ g) (z : List UInt8) : jnRead (jnPage g' l ++ z) g = none := by
  have h := jnRead_page g' l hg hl.1 hl.2 z
  unfold jnRead at h ⊢
  have hf : jnForm (jnPage g' l ++ z) g' = true := by
    cases h1 : jnForm (jnPage g' l ++ z) g' with
    | true => rfl
    | false => rw [h1] at h; cases h
  have hn : num (cut (jnPage g' l ++ z) 8 16) = g' := by
    unfold jnForm at hf
    simp only [Bool.and_eq_true, decide_eq_true_eq] at hf
    exact hf.2.2
  have hff : jnForm (jnPage g' l ++ z) g = false := by
    unfold jnForm
    rw [hn, decide_eq_false hne]
    simp
  rw [hff]; rfl
theorem Jns.opened (h : Jns J D) (ho : D.On) (hf : J.first + J.pages ≤ D.n) : Jn.opened D J.first J.pages J.gen = { J with losses := D.losses } := by
  obtain ⟨ls, q1, q2, q3⟩ := h.pg
  have hgo : ∀ (f u : Nat), u + f = J.pages → u ≤ J.used → jnGo D J.first J.gen f u (note [] (ls.take u).flatten) = (J.used, J.marks) := by
    intro f
    induction f with
    | zero =>
      intro u hu hle
      have e : u = J.used := by have := h.used; omega
      subst e
      rw [jnGo, q2, List.take_of_length_le (by omega)]
    | succ f ih =>
      intro u hu hle
      have hr := ho.reads (i := J.first + u) (by omega)
      rw [jnGo, hr.1, hr.2]
      by_cases hlt : u < J.used
      · have hg := List.getElem?_eq_getElem (l := ls) (i := u) (by omega)
        obtain ⟨e1, e2⟩ := q3 u _ hg
        rw [e1]
        have e3 : jnRead (Pg.full (Dev.pad (jnPage J.gen ls[u]))).data J.gen = some ls[u] := jnRead_page J.gen _ h.gen e2.1 e2.2 _
        rw [if_neg (by simp [Pg.err]), if_pos (by rfl), e3]
        simp only
        have e4 : note (note [] (ls.take u).flatten) ls[u] = note [] (ls.take (u + 1)).flatten := by
          rw [List.take_add_one, hg, Option.toList, List.flatten_append, note_append]
          simp
        rw [e4]
        exact ih (u + 1) (by omega) (by omega)
      · have e : u = J.used := by omega
        subst e
        have em : note [] (ls.take J.used).flatten = J.marks := by rw [q2, List.take_of_length_le (by omega)]
        rw [em]
        rcases h.rest J.used (Nat.le_refl _) (by omega) with e1 | ⟨g', l', e1, e2, e3⟩
        · rw [e1, if_pos (by rfl)]
        · rw [e1, if_neg (by simp [Pg.err]), if_pos (by rfl)]
          have e4 : jnRead (Pg.full (Dev.pad (jnPage g' l'))).data J.gen = none := jnRead_other (by have := h.gen; omega) e3 (by omega) _
          rw [e4]
  have h0 := hgo J.pages 0 (by omega) (Nat.zero_le _)
  simp only [List.take_zero, List.flatten_nil] at h0
  have h0' : jnGo D J.first J.gen J.pages 0 [] = (J.used, J.marks) := h0
  unfold Jn.opened
  rw [h0']
theorem note1_grow (ms : Marks) (m : Mk) {k : Int} {w : Nat} (h : aget ms k = some w) : ∃ w', aget (note1 ms m) k = some w' ∧ w ≤ w' := by
  rw [note1_get, h]
  split
  · exact ⟨_, rfl, Nat.le_max_left _ _⟩
  · exact ⟨w, rfl, Nat.le_refl _⟩
theorem note_grow (l : List Mk) : ∀ (ms : Marks) {k : Int} {w : Nat}, aget ms k = some w → ∃ w', aget (note ms l) k = some w' ∧ w ≤ w' := by
  induction l with
  | nil => intro ms k w h; exact ⟨w, h, Nat.le_refl _⟩
  | cons m r ih =>
    intro ms k w h
    obtain ⟨w1, h1, h2⟩ := note1_grow ms m h
    obtain ⟨w2, h3, h4⟩ := ih (note1 ms m) h1
    exact ⟨w2, h3, Nat.le_trans h2 h4⟩
theorem note_gone (l : List Mk) : ∀ (ms : Marks) {k v : Nat}, (k, v) ∈ l → ∃ w, aget (note ms l) (k : Int) = some w ∧ v ≤ w := by
  induction l with
  | nil => intro ms k v h; cases h
  | cons m r ih =>
    intro ms k v h
    rcases List.mem_cons.1 h with e | h
    · subst e
      have h1 : ∃ w, aget (note1 ms (k, v)) (k : Int) = some w ∧ v ≤ w := by
        rw [note1_get, if_pos rfl]
        cases aget ms (k : Int) with
        | none => exact ⟨v, rfl, Nat.le_refl _⟩
        | some a => exact ⟨_, rfl, Nat.le_max_right _ _⟩
      obtain ⟨w, h2, h3⟩ := h1
      obtain ⟨w', h4, h5⟩ := note_grow r _ h2
      exact ⟨w', h4, Nat.le_trans h3 h5⟩
    · exact ih _ h
theorem gone_note {J : Jn} {l : List Mk} {k v ver : Nat} (h : (k, v) ∈ l) (hv : ver ≤ v) : ({ J with marks := note J.marks l } : Jn).gone k ver = true := by
  obtain ⟨w, h1, h2⟩ := note_gone l J.marks h
  unfold Jn.gone
  simp only
  rw [h1]
  simp only [decide_eq_true_eq]
  omega
theorem gone_grow {J : Jn} {l : List Mk} {k ver : Nat} (h : J.gone k ver = true) : ({ J with marks := note J.marks l } : Jn).gone k ver = true := by
  unfold Jn.gone at h ⊢
  cases hk : aget J.marks (k : Int) with
  | none => rw [hk] at h; cases h
  | some w =>
    rw [hk] at h
    simp only [decide_eq_true_eq] at h
    obtain ⟨w', h1, h2⟩ := note_grow l J.marks hk
    simp only
    rw [h1]
    simp only [decide_eq_true_eq]
    omega
end
end Go.Proofs.YtplpbbdakihnfaaGreat
end

section
namespace Go.Proofs.YtplpbbdakihnfaaGreat
open Go.RowKit
structure All (g : Geo) (Q : Item → Prop) (K : ByteArray → Prop) (c : Nat) (X : Eng) (D : Dev) (ls : List (List Item)) : Prop where
  run : Run g c X D
  bks : Bks (2 + g.j) Q K X.B D ls
  lgs : Lgs Q (fun k => X.B.may k = true ∧ K k) c X.G D
  jns : Jns X.J D
  jgen : X.J.gen = X.blk.gen
section
variable {g : Geo} {Q Q' : Item → Prop} {K : ByteArray → Prop} {c : Nat} {X : Eng} {D D' : Dev} {ls : List (List Item)}
theorem All.mono (h : All g Q K c X D ls) (hq : ∀ x, Q x → Q' x) {c' : Nat} (hc : c ≤ c') (hf : c' ≤ 1000000) : All g Q' K c' X D ls :=
  ⟨h.run.more hc hf, h.bks.mono hq, h.lgs.mono hq (fun _ h => h) hc hf, h.jns, h.jgen⟩
theorem rid_id {l : List Item} {key : ByteArray} (h : ∀ y ∈ l, y.key ≠ key) : rid l key = l := List.filter_eq_self.2 (fun y hy => by simp [keyed, h y hy])
theorem All.small (h : All g Q K c X D ls) (hc : c + 1 ≤ 1000000) {x : Item} (hx : x.good = true) (hs : x.size ≤ 120) (hnew : ¬ Q x) (hK : ∀ y, Q y → y.key = x.key → K x.key) {l : List Item} (hl : ls[X.B.no x.key]? = some l) :
    X.B.lE D (X.B.no x.key) = 0 ∧ X.B.putE D x = 0 ∧ X.psE D x = 0 ∧ X.psX D x = { X with B := X.B.add x, G := X.G.drop x.key } ∧
      All g (fun y => Q y ∨ y = x) K (c + 1) (X.psX D x) (X.psD D x) (ls.set (X.B.no x.key) (pleft l x)) := by
  have hb0 := h.bks.mono (Q' := fun y => Q y ∨ y = x) (fun _ h => .inl h)
  obtain ⟨p1, p2, p3, p4, p5⟩ := hb0.small (X := X) hx (by omega) (.inr rfl) hl (fun y hy hne hyk => hy.elim (fun hy => hK y hy hyk) (fun e => absurd e hne)) (fun hm => hnew (h.bks.q _ l hl x hm))
  have e : X.psX D x = { X with B := X.B.add x, G := X.G.drop x.key } := by unfold Eng.psX; rw [if_pos p3]
  have hno : X.B.no x.key < g.b := by have := h.bks.bk.no_ x.key; have := h.bks.bk.len; have := h.run.b2; omega
  have hmay : (X.B.add x).may x.key = true := by
    refine p5.may_ (i := X.B.no x.key) (List.getElem?_set_self (List.getElem?_eq_some_iff.1 hl).1) (mem_pleft l x (by omega))
  refine ⟨p1, p2, p3, e, ?_⟩
  rw [e]
  have hkL : Keep (fun i => X.G.first ≤ i ∧ i < X.G.first + 4 * X.G.regs.length) D (X.psD D x) := p4.mono (fun i hi => by have := h.run.g1; omega)
  have hkJ : Keep (fun i => X.J.first ≤ i ∧ i < X.J.first + X.J.pages) D (X.psD D x) := p4.mono (fun i hi => by have := h.run.j1; have := h.run.j2; omega)
  have hk0 : Keep (fun i => i < 2) D (X.psD D x) := p4.mono (fun i hi => by omega)
  refine ⟨?_, p5, ?_, h.jns.keep hkJ, h.jgen⟩
  · exact (h.run.part (X' := { X with B := X.B.add x, G := X.G.drop x.key }) hk0 rfl rfl rfl rfl rfl rfl rfl (by simp [Sto.add]) rfl rfl rfl rfl).more (Nat.le_succ c) hc
  · exact ((h.lgs.keep hkL).mono (Q' := fun y => Q y ∨ y = x) (C' := fun k => (X.B.add x).may k = true ∧ K k) (fun _ h => .inl h) (fun k hk => ⟨add_may X.B x k hk.1, hk.2⟩) (Nat.le_succ c) hc).drop x.key (fun p hp => by
      obtain ⟨y, hy, hyk⟩ := h.lgs.has_q hp
      exact ⟨hmay, hK y hy hyk⟩)
theorem All.great (h : All g Q K c X D ls) (hc : c + 1 ≤ 1000000) {x : Item} (hx : x.good = true) (hs : x.size ≤ 1472) (hnew : ¬ Q x) (hK : ∀ y, Q y → y.key = x.key → K x.key) {l : List Item} (hl : ls[X.B.no x.key]? = some l) :
    X.B.lE (X.G.put D x).D (X.B.no x.key) = 0 ∧ X.pgE D x = 0 ∧ (X.G.put D x).G.view x.key = some x ∧ (∀ key, key ≠ x.key → (X.G.put D x).G.view key = none ∨ (X.G.put D x).G.view key = X.G.view key) ∧
      All g (fun y => Q y ∨ y = x) K (c + 1) (X.pgX D x) (X.pgD D x) (ls.set (X.B.no x.key) (rid l x.key)) := by
  have hfits : Lg.fits x = true := by unfold Lg.fits; rw [hx, decide_eq_true hs]; rfl
  have hl0 := h.lgs.mono (Q' := fun y => Q y ∨ y = x) (C' := fun k => X.B.may k = true ∧ K k) (fun _ h => .inl h) (fun _ h => h) (Nat.le_refl c) h.lgs.few
  obtain ⟨q1, q2, q3, q4, q5, q6, q7, q8⟩ := hl0.put hc hfits (.inr rfl)
  have hkB : Keep (fun i => 2 + g.j ≤ i ∧ i < 2 + g.j + X.B.fs.length) D (X.G.put D x).D := q3.mono (fun i hi => by have := h.run.g1; have := h.run.b2; omega)
  have hkJ : Keep (fun i => X.J.first ≤ i ∧ i < X.J.first + X.J.pages) D (X.G.put D x).D := q3.mono (fun i hi => by have := h.run.g1; have := h.run.j1; have := h.run.j2; omega)
  have hk0 : Keep (fun i => i < 2) D (X.G.put D x).D := q3.mono (fun i hi => by have := h.run.g1; omega)
  have hb1 := h.bks.keep hkB
  obtain ⟨d1, d2, d3, d4⟩ := hb1.drop_ (X := X) x.key hl (fun y hy hyk => hK y hy hyk)
  have hno : X.B.no x.key < g.b := by have := h.bks.bk.no_ x.key; have := h.bks.bk.len; have := h.run.b2; omega
  have hd5 : X.B.dropE (X.G.put D x).D x.key = 5 ∨ X.B.dropE (X.G.put D x).D x.key = 0 := by rw [d2]; split; exact .inl rfl; exact .inr rfl
  have hE : X.pgE D x = 0 := by
    unfold Eng.pgE
    rw [if_pos q1]
    split
    · rcases hd5 with e | e
      · rw [if_pos e]
      · rw [if_neg (by rw [e]; decide)]; exact e
    · rfl
  refine ⟨d1, hE, q7, q8, ?_⟩
  -- the same, whether the filter told of the key or not
  have hrid : X.B.may x.key = false → ls.set (X.B.no x.key) (rid l x.key) = ls := by
    intro hm
    have e : rid l x.key = l := rid_id (fun y hy e => by
      have := h.bks.may_ hl hy
      rw [e, hm] at this
      cases this)
    rw [e]
    apply List.ext_getElem?
    intro j
    by_cases hj : X.B.no x.key = j
    · subst hj; rw [List.getElem?_set_self (h.bks.bk.no_ x.key), hl]
    · rw [List.getElem?_set_ne hj]
  have hD : Keep (fun i => i < 2 + g.j ∨ 2 + g.j + g.b ≤ i) (X.G.put D x).D (X.pgD D x) ∧ Bks (2 + g.j) Q K X.B (X.pgD D x) (ls.set (X.B.no x.key) (rid l x.key)) := by
    unfold Eng.pgD
    cases hm : X.B.may x.key with
    | true =>
      rw [if_pos ⟨q1, rfl⟩]
      exact ⟨d3.mono (fun i hi => by omega), d4⟩
    | false =>
      rw [if_neg (fun h9 => by cases h9.2), hrid hm]
      exact ⟨Keep.refl q2.live.on, hb1⟩
  obtain ⟨hk2, hb2⟩ := hD
  have hG1 : (X.pgX D x).G = (X.G.put D x).G := rfl
  refine ⟨?_, hb2.mono (fun _ h => .inl h), ?_, (h.jns.keep hkJ).keep (hk2.mono (fun i hi => by have := h.run.j1; have := h.run.j2; omega)), h.jgen⟩
  · exact (h.run.part (X' := X.pgX D x) (hk0.trans (hk2.mono (fun i hi => by omega))) rfl rfl rfl rfl rfl rfl rfl rfl rfl q4 q5 q6).more (Nat.le_succ c) hc
  · exact q2.keep (hk2.mono (fun i hi => by rw [q4, q5] at hi; have := h.run.g1; omega))
theorem All.version (h : All g Q K c X D ls) (hc : c + 1 ≤ 1000000) : All g Q K (c + 1) (X.verX D) (X.verD D) ls := by
  obtain ⟨q1, q2, q3, q4, q5, q6, q7, q8, q9, q10, _⟩ := h.run.version hc
  refine ⟨q3, ?_, ?_, ?_, by rw [q6, q10]; exact h.jgen⟩
  · rw [q7]; exact h.bks.keep (q4.mono (fun i hi => by show 2 ≤ i; omega))
  · rw [q7, q8]; exact (h.lgs.keep (q4.mono (fun i hi => by show 2 ≤ i; have := h.run.g1; omega))).mono (fun _ h => h) (fun _ h => h) (Nat.le_succ c) hc
  · rw [q6]; exact h.jns.keep (q4.mono (fun i hi => by show 2 ≤ i; have := h.run.j1; omega))
theorem All.wipe (h : All g Q K c X D ls) (hc : c + 1 ≤ 1000000) : All g Q K (c + 1) (X.wipeX D) (D.stD X.wB) ls := by
  obtain ⟨q1, q2, q3, q4⟩ := h.run.wipe hc
  have hg : X.J.gen < X.blk.gen + 1 := by rw [h.jgen]; omega
  have hgl : X.blk.gen + 1 < 18446744073709551616 := by have := h.run.gen; have := h.run.few; omega
  rw [q4] at q2 ⊢
  exact ⟨q2, h.bks.keep (q3.mono (fun i hi => by show 2 ≤ i; omega)), (h.lgs.keep (q3.mono (fun i hi => by show 2 ≤ i; have := h.run.g1; omega))).mono (fun _ h => h) (fun _ h => h) (Nat.le_succ c) hc,
    (h.jns.keep (q3.mono (fun i hi => by show 2 ≤ i; have := h.run.j1; omega))).begun hg hgl, rfl⟩
theorem All.settle (h : All g Q K c X D ls) (hc : c + 1 ≤ 1000000) : X.stlE D = 0 ∧ All g Q K (c + 1) (X.stlX D) (X.stlD D) ls ∧ (X.stlX D).B = X.B ∧ (X.stlX D).J = X.J ∧ (X.stlX D).blk = X.blk ∧ (X.stlX D).last = X.last ∧ (X.G.opn = [] → (X.stlX D).G = X.G) := by
  obtain ⟨q1, q2, q3, q4, q5, q6, q7, q8⟩ := h.lgs.sl hc
  have ho := q3.live.on
  have eE : X.stlE D = 0 := by unfold Eng.stlE; rw [if_pos q1]; exact ho.changeE
  have eD : X.stlD D = (X.G.sl D).D.flush := by unfold Eng.stlD; rw [if_pos q1]
  have hk : Keep (fun i => i < X.G.first ∨ X.G.first + 4 * X.G.regs.length ≤ i) D (X.stlD D) := by rw [eD]; exact q4.trans (Keep.flush ho)
  refine ⟨eE, ⟨?_, h.bks.keep (hk.mono (fun i hi => by have := h.run.g1; have := h.run.b2; omega)), ?_, h.jns.keep (hk.mono (fun i hi => by have := h.run.g1; have := h.run.j1; have := h.run.j2; omega)), h.jgen⟩, rfl, rfl, rfl, rfl, fun h0 => by unfold Eng.stlX; rw [q8 h0]⟩
  · exact (h.run.part (X' := X.stlX D) (hk.mono (fun i hi => by have := h.run.g1; omega)) rfl rfl rfl rfl rfl rfl rfl rfl rfl q5 q6 q7).more (Nat.le_succ c) hc
  · rw [eD]; exact q3.keep (Keep.flush ho)
end
end Go.Proofs.YtplpbbdakihnfaaGreat
end
