/- Packed texts: Range, FlashD. -/
import Derived.Test.YtplpbbdakihnfaaGreatPq01
import Derived.Maps.RangeWalk
import Derived.Test.YtplpbbdakihnfaaGreatPq04
import Derived.Deep.LoopGhost
set_option linter.unusedSimpArgs false
set_option linter.unusedVariables false
section
namespace Go.Proofs.YtplpbbdakihnfaaGreat
open Go.RowKit
open Go.ChangeMaps (setBlock)
set_option linter.unusedSectionVars false
def Ranging {κ : Type} (K : κ → Value) (w : World) (b r : Nat) (left : List (κ × Value)) : Prop :=
  ∃ arr clock seen, w.heap[b]? = some (.map arr clock) ∧ w.heap[r]? = some (.mapIter (some b) clock seen clock) ∧ (arr.toList.map (·.born)).Nodup ∧ (∀ e ∈ arr.toList, e.born < clock) ∧
    (leftOf arr seen).toList.map (fun e => (e.key, e.val)) = left.map (fun p => (K p.1, p.2)) ∧ (akeys left).Nodup
section
variable {κ : Type} [DecidableEq κ] {K : κ → Value} {P : Program} {w w' : World} {b r : Nat} {es left : List (κ × Value)} {S : Nat → Prop}
theorem Ranging.chg (h : Ranging K w b r left) (hc : Chg S w w') (h1 : ¬ S b) (h2 : ¬ S r) : Ranging K w' b r left := by
  obtain ⟨arr, clock, seen, hb, hr, rest⟩ := h
  exact ⟨arr, clock, seen, hc.at_ hb h1, hc.at_ hr h2, rest⟩
theorem Ranging.ne_ (h : Ranging K w b r left) : r ≠ b := by
  obtain ⟨arr, clock, seen, hb, hr, rest⟩ := h
  rintro rfl
  rw [hb] at hr
  cases hr
theorem Ranging.not_blk (h : Ranging K w b r left) {g t cs fz} (hg : w.heap[g]? = some (.cells cs t fz)) : r ≠ g := by
  obtain ⟨arr, clock, seen, hb, hr, rest⟩ := h
  rintro rfl
  rw [hr] at hg
  cases hg
theorem leftOf_empty (arr : Array MapEntry) : leftOf arr #[] = arr := by
  unfold leftOf
  exact Array.filter_eq_self.2 (fun x _ => by simp)
theorem MapIs.range (h : MapIs K w b es) {T kt e : TypeId} (hT : P.underlying T = some (.map kt e)) :
    ∃ w', (Instr.range T (.map (some b))).run P w = .ok (.pointer (some ⟨w.heap.size, 0, none⟩)) w' ∧ Ranging K w' b w.heap.size es ∧ Chg No w w' ∧ w'.heap.size = w.heap.size + 1 := by
  obtain ⟨arr, clock, hb, hm, hn, hs1, hs2⟩ := h
  have hlt : b < w.heap.size := (Array.getElem?_eq_some_iff.1 hb).1
  refine ⟨w.alloc (.mapIter (some b) clock #[] clock), ?_, ⟨arr, clock, #[], (Below.heap_alloc w _ b hlt).trans hb, heap_alloc_new w _, hs1, hs2, by rw [leftOf_empty]; exact hm, hn⟩, (Chg.refl _ _).alloc _, by simp⟩
  simp only [Instr.range, Sem.run_bind, run_underlying hT, Result.andThen, Go.MapKept.run_getObj_map hb, Sem.run_pure]
  rfl
theorem adel_at : ∀ (l1 : List (κ × Value)) (p : κ × Value) (l2 : List (κ × Value)), (akeys (l1 ++ p :: l2)).Nodup → adel (l1 ++ p :: l2) p.1 = l1 ++ l2 ∧ aget (l1 ++ p :: l2) p.1 = some p.2
  | [], p, l2, _ => by simp [adel, aget]
  | q :: l1, p, l2, h => by
    simp only [akeys, List.cons_append, List.map_cons, List.nodup_cons] at h
    have hne : q.1 ≠ p.1 := fun e => h.1 (by rw [e]; simp)
    obtain ⟨h1, h2⟩ := adel_at l1 p l2 h.2
    exact ⟨by simp [adel, hne, h1], by simp [aget, hne, h2]⟩
theorem Ranging.next (h : Ranging K w b r left) (ty : TypeId) :
    (left = [] ∧ (Instr.next (.pointer (some ⟨r, 0, none⟩)) false ty).run P w = .ok (.tuple #[.bool false]) w) ∨
    ∃ k v w', aget left k = some v ∧ (Instr.next (.pointer (some ⟨r, 0, none⟩)) false ty).run P w = .ok (.tuple #[.bool true, K k, v]) w' ∧ Ranging K w' b r (adel left k) ∧ Chg (fun i => i = r) w w' ∧ w'.heap.size = w.heap.size ∧
      (Instr.entry (.pointer (some ⟨r, 0, none⟩))).run P w' = .ok (.tuple #[K k, v]) w' := by
  obtain ⟨arr, clock, seen, hb, hr, hs1, hs2, hm, hn⟩ := h
  have hne : b ≠ r := by
    rintro rfl
    rw [hb] at hr
    cases hr
  have hlt : r < w.heap.size := (Array.getElem?_eq_some_iff.1 hr).1
  rcases run_next_at (P := P) w ty r b clock clock seen arr clock hr hb hs2 (Nat.le_refl _) with ⟨h0, hrun⟩ | ⟨e, he, w1, hw1, hrun⟩
  · left
    refine ⟨?_, hrun⟩
    have : (leftOf arr seen).toList = [] := List.eq_nil_of_length_eq_zero (by simpa using h0)
    rw [this] at hm
    simpa using hm.symm
  · right
    obtain ⟨l1, l2, hl⟩ := List.append_of_mem he
    rw [hl] at hm
    simp only [List.map_append, List.map_cons] at hm
    have hsplit : ∃ m1 p m2, left = m1 ++ p :: m2 ∧ l1.map (fun e => (e.key, e.val)) = m1.map (fun p => (K p.1, p.2)) ∧ (e.key, e.val) = (K p.1, p.2) ∧ l2.map (fun e => (e.key, e.val)) = m2.map (fun p => (K p.1, p.2)) := by
      have h1 := List.map_eq_append_iff.1 hm.symm
      obtain ⟨m1, m', e1, e2, e3⟩ := h1
      obtain ⟨p, m2, e4, e5, e6⟩ := List.map_eq_cons_iff.1 e3
      exact ⟨m1, p, m2, by rw [e1, e4], e2.symm, e5.symm, e6.symm⟩
    obtain ⟨m1, p, m2, rfl, hm1, hp, hm2⟩ := hsplit
    obtain ⟨hd, hg⟩ := adel_at m1 p m2 hn
    simp only [Prod.mk.injEq] at hp
    have hr1 : w1.heap = w.heap := by rcases hw1 with rfl | rfl <;> rfl
    have hc1 : Chg (fun i => i = r) w w1 := by rcases hw1 with rfl | rfl
                                               · exact Chg.refl _ _
                                               · exact (Chg.refl _ _).drew
    have heArr : e ∈ arr.toList := by
      simp only [leftOf, Array.toList_filter, List.mem_filter] at he
      exact he.1
    have hself : (setBlock w1 r (.mapIter (some b) clock (seen.push e.born) clock)).heap[r]? = some (.mapIter (some b) clock (seen.push e.born) clock) := setBlock_self (by rw [hr1]; exact hlt) _
    have hother : (setBlock w1 r (.mapIter (some b) clock (seen.push e.born) clock)).heap[b]? = some (.map arr clock) := by
      have : r ≠ b := fun e => hne e.symm
      simp only [Go.ChangeMaps.setBlock, hr1]
      rw [Array.getElem?_setIfInBounds_ne this]
      exact hb
    refine ⟨p.1, p.2, _, hg, by rw [hrun, hp.1, hp.2], ⟨arr, clock, seen.push e.born, hother, hself, hs1, hs2, ?_, ?_⟩, hc1.trans (chg_setBlock _ _ _), by simp [Go.ChangeMaps.setBlock, hr1], ?_⟩
    · rw [hd]
      have : (leftOf arr (seen.push e.born)).toList = l1 ++ l2 := by
        have hf : leftOf arr (seen.push e.born) = (leftOf arr seen).filter (fun x => x.born != e.born) := by
          unfold leftOf
          apply Array.ext'
          simp only [Array.toList_filter, List.filter_filter]
          apply List.filter_congr
          intro x hx
          simp only [Array.contains_eq_any_beq, ← Array.any_toList, Array.toList_push, List.any_append, List.any_cons, List.any_nil, Bool.or_false]
          cases seen.toList.any fun y => x.born == y <;> cases hb : x.born == e.born <;> simp_all [bne]
        rw [hf]
        simp only [Array.toList_filter, hl]
        have hnd : ((l1 ++ e :: l2).map (·.born)).Nodup := by
          rw [← hl]
          refine List.Sublist.nodup (List.Sublist.map _ ?_) hs1
          simp only [leftOf, Array.toList_filter]
          exact List.filter_sublist
        simp only [List.map_append, List.map_cons, List.nodup_append, List.nodup_cons, List.mem_cons, List.mem_map] at hnd
        obtain ⟨h1, ⟨h2, h3⟩, h4⟩ := hnd
        rw [List.filter_append, List.filter_cons_of_neg (by simp)]
        rw [List.filter_eq_self.2, List.filter_eq_self.2]
        · intro x hx
          simp only [bne_iff_ne]
          exact fun e' => h2 ⟨x, hx, e'⟩
        · intro x hx
          simp only [bne_iff_ne]
          exact h4 _ ⟨x, hx, rfl⟩ _ (.inl rfl)
      rw [this, List.map_append, List.map_append, hm1, hm2]
    · rw [hd]
      have : (akeys (m1 ++ m2)).Sublist (akeys (m1 ++ p :: m2)) := by
        simp only [akeys]
        exact List.Sublist.map _ (List.Sublist.append_left (List.sublist_cons_self _ _) _)
      exact this.nodup hn
    · have := run_entry_at (P := P) _ r b clock seen arr clock e hself hother heArr hs1
      rw [this, hp.1, hp.2]
theorem wpList_rng (w : World) {ops : Array Oper} {rest : List Oper} {o : Oper} {a : Act} {Q : Exit → Act → World → Prop} (hg : o.guard = none) (m : Operand) (T : TypeId) (hop : o.op = Op.range T m) {kt e : TypeId} (hT : P.underlying T = some (.map kt e)) (b : Nat) (es : List (κ × Value))
    (hm : a.eval m = .map (some b)) (h : MapIs K w b es)
    (hK : ∀ w', Ranging K w' b w.heap.size es → Chg No w w' → w'.heap.size = w.heap.size + 1 → wpList P ops Q rest (a.put o.dst (.pointer (some ⟨w.heap.size, 0, none⟩))) w') : wpList P ops Q (o :: rest) a w := by
  refine wpList_plain hg fun K' hK' => ?_
  obtain ⟨w', hrun, r1, r2, r3⟩ := h.range (P := P) hT
  unfold Oper.wp
  simp [execOp, hop, hm, hrun, Result.andThen]
  exact hK' _ _ (hK w' r1 r2 r3)
theorem wpList_nxt (w : World) {ops : Array Oper} {rest : List Oper} {o : Oper} {a : Act} {Q : Exit → Act → World → Prop} (hg : o.guard = none) (it : Operand) (hop : o.op = Op.next it false) (b r : Nat) (left : List (κ × Value))
    (hit : a.eval it = .pointer (some ⟨r, 0, none⟩)) (h : Ranging K w b r left)
    (hDone : left = [] → wpList P ops Q rest (a.put o.dst (.tuple #[.bool false])) w)
    (hMore : ∀ k v w', aget left k = some v → Ranging K w' b r (adel left k) → Chg (fun i => i = r) w w' → w'.heap.size = w.heap.size → (Instr.entry (.pointer (some ⟨r, 0, none⟩))).run P w' = .ok (.tuple #[K k, v]) w' → wpList P ops Q rest (a.put o.dst (.tuple #[.bool true, K k, v])) w') :
    wpList P ops Q (o :: rest) a w := by
  refine wpList_plain hg fun K' hK' => ?_
  unfold Oper.wp
  rcases h.next (P := P) o.type with ⟨h0, hrun⟩ | ⟨k, v, w', hat, hrun, hrg, hc, hsz, hen⟩
  · simp [execOp, hop, hit, hrun, Result.andThen]
    exact hK' _ _ (hDone h0)
  · simp [execOp, hop, hit, hrun, Result.andThen]
    exact hK' _ _ (hMore k v w' hat hrg hc hsz hen)
end
end Go.Proofs.YtplpbbdakihnfaaGreat
end

section
namespace Go.Proofs.YtplpbbdakihnfaaGreat
open Go.RowKit
open Go.ChangeMaps (setBlock)
def flcur (D : Dev) (left : List (Int × Value)) : Nat → Pg := fun i => if (aget left (i : Int)).isSome then D.fl i else (D.wt i).getD (D.fl i)
structure Flushing (h : DevH) (D : Dev) (w1 wr : World) (es left : List (Int × Value)) (ps : List Value) : Prop where
  rng : Ranging ikey wr h.M w1.heap.size left
  sub : ∀ k v, aget left k = some v → aget es k = some v
  blk : Blk wr h.F tPP ps.toArray
  row : RowAt wr.heap.size wr ps D.n (flcur D left)
  map : MapIs ikey wr h.M es
  chg : Chg (fun k => k = h.F) w1 wr
  big : w1.heap.size < wr.heap.size
theorem PgAt.ptr {N : Nat} {w : World} {v : Value} {p : Pg} (h : PgAt N w v p) : ∃ q, v = .pointer q := by
  cases p with
  | blank => exact ⟨_, h⟩
  | torn => obtain ⟨p, _, hv, _⟩ := h; exact ⟨_, hv⟩
  | full b => obtain ⟨p, q, _, _, hv, _⟩ := h; exact ⟨_, hv⟩
theorem flushing_step {h : DevH} {D : Dev} {N : Nat} {w1 wr wr2 : World} {es left : List (Int × Value)} {ps : List Value} (hd : DevN N w1 h D) (hes : WaitAt N w1 es D.n D.wt) (H : Flushing h D w1 wr es left ps) {k : Int} {v : Value}
    (hg : aget left k = some v) (hr : Ranging ikey wr2 h.M w1.heap.size (adel left k)) (hc : Chg (fun i => i = w1.heap.size) wr wr2) (hs : wr2.heap.size = wr.heap.size) (hnd : (akeys left).Nodup) :
    ∃ (i : Nat) (q : Option Addr), k = (i : Int) ∧ v = .pointer q ∧ i < D.n ∧ i < ps.length ∧ Flushing h D w1 (wr2.setCell ⟨h.F, i, none⟩ v) es (adel left k) (ps.set i v) := by
  obtain ⟨nF, nM, nMF⟩ := hd.apart
  have hbig := H.big
  have hFne : h.F ≠ w1.heap.size := by
    obtain ⟨ps, g, _⟩ := hd.row
    have := g.lt
    omega
  have hMne : h.M ≠ w1.heap.size := by
    obtain ⟨es, g, _⟩ := hd.map
    have := g.lt
    omega
  obtain ⟨i, pg, e1, e2, e3, e4⟩ := hes.1 k v (aget_mem (H.sub k v hg))
  subst e1
  have hlen := H.row.1
  have hcF : Chg (fun j => j = h.F) wr2 (wr2.setCell ⟨h.F, i, none⟩ v) := chg_setCell wr2 ⟨h.F, i, none⟩ v
  have hb2 : Blk wr2 h.F tPP ps.toArray := H.blk.chg hc hFne
  have hc2 : Chg (fun k => k = h.F) w1 (wr2.setCell ⟨h.F, i, none⟩ v) := (H.chg.then (T := fun i => i = w1.heap.size) hc (by intro j hj e; omega)).trans hcF
  have hkeep : ∀ g cs t, g < N → (t = tPage ∨ t = tU8) → Blk w1 g t cs → ¬ g = h.F := fun g cs t _ ht hb e => by
    refine hd.not_foot hb ?_ ?_ (.inr (.inl e)) <;> rcases ht with rfl | rfl <;> decide
  have hkeep2 : ∀ g cs t, g < wr.heap.size → (t = tPage ∨ t = tU8) → Blk wr g t cs → ¬ (g = h.F ∨ g = w1.heap.size) := fun g cs t _ ht hb e => by
    rcases e with rfl | rfl
    · have := hb.ne_ H.blk (by rcases ht with rfl | rfl <;> decide)
      exact this rfl
    · exact H.rng.not_blk hb rfl
  obtain ⟨q, hq⟩ := e4.ptr
  refine ⟨i, q, rfl, hq, e2, by omega, { rng := hr.chg hcF (fun e => nMF e) (fun e => hFne e.symm), sub := ?_, blk := ?_, row := ⟨by simpa using hlen, ?_⟩, map := (H.map.chg hc hMne).chg hcF (fun e => nMF e), chg := hc2, big := by simp [hs]; exact hbig }⟩
  · intro k' v' h'
    rw [aget_adel left hnd] at h'
    split at h'
    · cases h'
    · exact H.sub k' v' h'
  · have := hb2.set_ i v
    simpa using this
  · intro j u hu
    have hflj : ∀ j : Nat, j ≠ i → flcur D (adel left (i : Int)) j = flcur D left j := by
      intro j hj
      show (if (aget (adel left (i : Int)) (j : Int)).isSome then D.fl j else (D.wt j).getD (D.fl j)) = _
      have hne : ¬ ((i : Int) = (j : Int)) := by omega
      rw [aget_adel left hnd, if_neg hne]
      rfl
    rw [List.getElem?_set] at hu
    split at hu
    · rename_i hij
      subst hij
      split at hu
      · injection hu with hu
        subst hu
        have : flcur D (adel left (i : Int)) i = pg := by simp [flcur, aget_adel left hnd, e3]
        rw [this]
        refine (e4.chg hc2 hkeep).mono ?_
        have := hd.below
        simp [hs]; omega
      · cases hu
    · rename_i hij
      rw [hflj j (fun e => hij e.symm)]
      have h1 := H.row.2 j u hu
      have hcc : Chg (fun g => g = h.F ∨ g = w1.heap.size) wr (wr2.setCell ⟨h.F, i, none⟩ v) := (hc.mono (fun k _ e => .inr e)).trans (hcF.mono (fun k _ e => .inl e))
      refine (h1.chg hcc hkeep2).mono (by simp [hs])
theorem adel_length {κ V : Type} [DecidableEq κ] {l : List (κ × V)} {k : κ} {v : V} (h : aget l k = some v) : (adel l k).length + 1 = l.length := by
  induction l with
  | nil => simp [aget] at h
  | cons p r ih =>
    simp only [aget] at h
    simp only [adel]
    split
    · simp
    · rename_i hne
      rw [if_neg hne] at h
      simp [ih h]
theorem flush_calls {N : Nat} {w : World} {h : DevH} {D : Dev} (hd : DevN N w h D) :
    Calls Tryz.prog 43 #[.pointer (some ⟨h.d, 0, none⟩)] w fun e w' => e = .returned (.int .i64 D.changeE) ∧ DevAt w' h D.flush ∧ Chg h.foot w w' := by
  have hspend := Lib.hid (spend_calls hd)
  by_cases c0 : D.spent = true
  · rw [show D.changeE = 0 from by simp [Dev.changeE, c0], show D.flush = D.spend.settled from by simp [Dev.flush, c0]]
    rw [c0] at hspend
    go_enter Tryz.func43, Tryz.ntmps43
    go_wp2_with fail
    refine hspend.out.mono ?_
    rintro e w1 ⟨rfl, hd1, hc1⟩
    have HC1 := Lib.hid hc1
    have HD1 := Lib.hid hd1
    obtain ⟨D1, hD1⟩ : ∃ D1, D1 = D.spend := ⟨_, rfl⟩
    rw [← hD1] at hd1 HD1
    have HDE := Lib.hid hD1
    clear c0 hspend hd hc1 hD1
    obtain ⟨a, b, c, e, hb⟩ := hd1.box
    have hm1 := hb.cell 1
    simp at hm1
    obtain ⟨es, hm, hes⟩ := hd1.map
    obtain ⟨ps0, hF, hrow⟩ := hd1.row
    have HB := Lib.hid hb
    have HES := Lib.hid hes
    have HM := Lib.hid hm
    have HF := Lib.hid hF
    have HR := Lib.hid hrow
    have HN := Lib.hid hd1.nmost
    clear hb hes hm hF hrow hd1
    go_wp2_with (first
      | (at_range; refine wpList_rng _ rfl _ _ rfl Tryz.underlying74 h.M es rfl HM.out ?_; intro w2 hrng hc2 hs2; have HRNG := Lib.hid hrng; have HC2 := Lib.hid hc2; have HS2 := Lib.hid hs2; clear hrng hc2 hs2))
    go_frame
    go_loopg [] (es.length) (fun g wr => ∃ left ps, left.length = g ∧ Flushing h D1 w1 wr es left ps)
    case atStart =>
      refine ⟨es, ps0, rfl, { rng := HRNG.out, sub := fun _ _ h => h, blk := HF.out.chg HC2.out (fun h => h), row := ⟨HR.out.1, ?_⟩, map := HM.out.chg HC2.out (fun h => h), chg := HC2.out.mono (fun _ _ h => h.elim), big := by have := HS2.out; omega }⟩
      intro i v hv
      have h1 := HR.out.2 i v hv
      have h2 : PgAt w2.heap.size w2 v (D1.fl i) := (h1.chg HC2.out (fun _ _ _ _ _ _ h => h)).mono HC2.out.size
      have : flcur D1 es i = D1.fl i := by
        simp only [flcur]
        split
        · rfl
        · rename_i hn
          have : D1.wt i = none := by
            cases hw : D1.wt i with
            | none => rfl
            | some pg => obtain ⟨v, hv⟩ := HES.out.2 i pg hw; rw [hv] at hn; simp at hn
          simp [this]
      rw [this]; exact h2
    case round =>
      obtain ⟨left, ps, hl, H⟩ := hrel
      have HH := Lib.hid H
      have H0 := Lib.hid H
      have HL := Lib.hid hl
      have hd0 : wr.cell? ⟨h.d, 0, none⟩ = some (.slice (some ⟨h.F, 0, none⟩) D1.n D1.n) := by
        have := (HB.out.chg H.chg (by have := HD1.out.apart; intro e; exact this.1 e.symm)).cell 0
        simpa using this
      have hd1' : wr.cell? ⟨h.d, 1, none⟩ = some (.map (some h.M)) := by
        have := (HB.out.chg H.chg (by have := HD1.out.apart; intro e; exact this.1 e.symm)).cell 1
        simpa using this
      clear H hl hm1
      go_wp2_with (first
        | (at_next; refine wpList_nxt _ rfl _ rfl h.M w1.heap.size left rfl HH.out.rng ?_ ?_))
      · intro hleft
        have HLE := Lib.hid hleft
        clear hleft
        obtain ⟨o, hrun, hmc⟩ := HH.out.map.clear (P := Tryz.prog) (ty := 0) Tryz.underlying74
        obtain ⟨w3, hw3⟩ : ∃ w3, w3 = setBlock wr h.M o := ⟨_, rfl⟩
        have hc3 : Chg (fun i => i = h.M) wr w3 := by rw [hw3]; exact chg_setBlock _ _ _
        rw [← hw3] at hrun hmc
        clear hw3
        have AP := Lib.hid HD1.out.apart
        have hbr := HB.out.chg H0.out.chg (by intro e; exact AP.out.1 e.symm)
        have hb3 := hbr.chg hc3 (fun e => AP.out.2.1 e.symm)
        have h6 := hb3.cell 6
        simp at h6
        have f6 := hb3.frozen 6
        have hfd : Chg h.foot w1 (w3.setCell ⟨h.d, 6, none⟩ (.int .i64 (wrap64 (b + 1)))) :=
          (H0.out.chg.mono (fun k _ e => .inr (.inl e))).trans ((hc3.mono (fun k _ e => .inr (.inr e))).trans ((chg_setCell w3 ⟨h.d, 6, none⟩ _).mono (fun k _ e => .inl e)))
        have fin : DevAt (w3.setCell ⟨h.d, 6, none⟩ (.int .i64 (wrap64 (b + 1)))) h D1.settled := by
          refine HD1.out.step hfd rfl ⟨a, wrap64 (b + 1), c, e, ?_⟩ (.inl ⟨ps, ?_, H0.out.row.1, ?_⟩) (.inl ⟨[], ?_, ?_, ?_⟩) HD1.out.armed
          · have := hb3.set_ 6 (.int .i64 (wrap64 (b + 1)))
            simpa [Dev.settled] using this
          · exact (H0.out.blk.chg hc3 (fun e => AP.out.2.2 e.symm)).chg (chg_setCell w3 ⟨h.d, 6, none⟩ _) AP.out.1
          · intro i v hv
            have h1 := H0.out.row.2 i v hv
            have e1 : flcur D1 left i = D1.settled.fl i := by rw [HLE.out]; simp [flcur, aget, Dev.settled]
            rw [e1] at h1
            have hcc : Chg (fun g => g = h.M ∨ g = h.d) wr (w3.setCell ⟨h.d, 6, none⟩ (.int .i64 (wrap64 (b + 1)))) := (hc3.mono (fun k _ e => .inl e)).trans ((chg_setCell w3 ⟨h.d, 6, none⟩ _).mono (fun k _ e => .inr e))
            refine (h1.chg hcc ?_).mono hcc.size
            intro g cs t _ ht hb e
            rcases e with rfl | rfl
            · exact H0.out.map.ne_blk hb rfl
            · exact hb.ne_ hbr (by rcases ht with rfl | rfl <;> decide) rfl
          · exact hmc.chg (chg_setCell w3 ⟨h.d, 6, none⟩ _) AP.out.2.1
          · intro k v h; cases h
          · intro i pg h; cases h
        have F : Hid (DevAt (w3.setCell ⟨h.d, 6, none⟩ (.int .i64 (wrap64 (b + 1)))) h D1.settled ∧ Chg h.foot w (w3.setCell ⟨h.d, 6, none⟩ (.int .i64 (wrap64 (b + 1))))) := ⟨fin, HC1.out.trans hfd⟩
        clear fin hfd hb3 hbr hmc hc3
        go_wp2
        go_ret
        exact ⟨rfl, by rw [← HDE.out]; exact F.out⟩
      · intro k v wr2 hg hr hc hs hen
        have hnd : (akeys left).Nodup := by
          obtain ⟨_, _, _, _, _, _, _, _, h⟩ := H0.out.rng
          exact h
        obtain ⟨i, q, rfl, rfl, hin, hip, HS⟩ := flushing_step HD1.out HES.out H0.out hg hr hc hs hnd
        have HSS := Lib.hid HS
        have HLN : Hid ((adel left (i : Int)).length < gk) := by
          have := adel_length hg
          show _ < _
          rw [← HL.out]; omega
        have hd0' : wr2.cell? ⟨h.d, 0, none⟩ = some (.slice (some ⟨h.F, 0, none⟩) D1.n D1.n) := by
          have hne : h.d ≠ w1.heap.size := by have := HB.out.lt; omega
          rw [← hd0]
          exact World.cell?_of_block (hc.block h.d (by have := HB.out.lt; have := H0.out.big; omega) hne)
        have hFb : Blk wr2 h.F tPP ps.toArray := H0.out.blk.chg hc (by have := HF.out.lt; omega)
        have hFc : (wr2.cell? ⟨h.F, i, none⟩).isSome = true := by
          rw [hFb.cell i]
          simp [hip]
        obtain ⟨old, hold⟩ := Option.isSome_iff_exists.1 hFc
        have hFf := hFb.frozen i
        have hni : (i : Int) < (D1.n : Int) := by omega
        clear HS hFb hFc hg hr hc hs hnd hip hd0
        go_wp2
        go_roundg (adel left (i : Int)).length
        case measure => exact HLN.out
        case rel => exact ⟨_, _, rfl, HSS.out⟩
  · have c1 : D.spent = false := by simpa using c0
    rw [show D.changeE = 4 from by simp [Dev.changeE, c1], show D.flush = D.spend from by simp [Dev.flush, c1]]
    rw [c1] at hspend
    clear c0 c1
    go_enter Tryz.func43, Tryz.ntmps43
    go_wp2_with fail
    refine hspend.out.mono ?_
    rintro e w1 ⟨rfl, hd1, hc1⟩
    have F := Lib.hid (And.intro hd1 hc1)
    clear hd1 hc1 hspend hd
    go_wp2
    go_ret
    exact ⟨rfl, F.out⟩
end Go.Proofs.YtplpbbdakihnfaaGreat
end
