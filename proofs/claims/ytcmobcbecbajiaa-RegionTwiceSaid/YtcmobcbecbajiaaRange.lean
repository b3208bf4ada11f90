/- Ranging over a map that is not changed meanwhile. -/
import Derived.Test.YtcmobcbecbajiaaMaps
import Derived.Maps.RangeWalk
namespace Go.Proofs.Ytcmobcbecbajiaa
open Go.RowKit
open Go.ChangeMaps (setBlock)
set_option linter.unusedSimpArgs false
set_option linter.unusedVariables false
set_option linter.unusedSectionVars false

/-- the iterator in block r goes over the map in block b; 'left' is still to come -/
def Ranging {κ : Type} (K : κ → Value) (w : World) (b r : Nat) (left : List (κ × Value)) : Prop :=
  ∃ arr clock seen, w.heap[b]? = some (.map arr clock) ∧ w.heap[r]? = some (.mapIter (some b) clock seen clock) ∧ (arr.toList.map (·.born)).Nodup ∧ (∀ e ∈ arr.toList, e.born < clock) ∧
    (leftOf arr seen).toList.map (fun e => (e.key, e.val)) = left.map (fun p => (K p.1, p.2)) ∧ (akeys left).Nodup

section
variable {κ : Type} [DecidableEq κ] {K : κ → Value} {P : Program} {w w' : World} {b r : Nat} {es left : List (κ × Value)} {S : Nat → Prop}
theorem Ranging.chg (h : Ranging K w b r left) (hc : Chg S w w') (h1 : ¬ S b) (h2 : ¬ S r) : Ranging K w' b r left := by
  obtain ⟨arr, clock, seen, hb, hr, rest⟩ := h
  exact ⟨arr, clock, seen, hc.at_ hb h1, hc.at_ hr h2, rest⟩
theorem Ranging.ne_ (h : Ranging K w b r left) : r ≠ b := by
  obtain ⟨arr, clock, seen, hb, hr, rest⟩ := h
  rintro rfl
  rw [hb] at hr
  cases hr
theorem Ranging.not_blk (h : Ranging K w b r left) {g t cs fz} (hg : w.heap[g]? = some (.cells cs t fz)) : r ≠ g := by
  obtain ⟨arr, clock, seen, hb, hr, rest⟩ := h
  rintro rfl
  rw [hr] at hg
  cases hg
theorem leftOf_empty (arr : Array MapEntry) : leftOf arr #[] = arr := by
  unfold leftOf
  exact Array.filter_eq_self.2 (fun x _ => by simp)

theorem MapIs.range (h : MapIs K w b es) {T kt e : TypeId} (hT : P.underlying T = some (.map kt e)) :
    ∃ w', (Instr.range T (.map (some b))).run P w = .ok (.pointer (some ⟨w.heap.size, 0, none⟩)) w' ∧ Ranging K w' b w.heap.size es ∧ Chg No w w' ∧ w'.heap.size = w.heap.size + 1 := by
  obtain ⟨arr, clock, hb, hm, hn, hs1, hs2⟩ := h
  have hlt : b < w.heap.size := (Array.getElem?_eq_some_iff.1 hb).1
  refine ⟨w.alloc (.mapIter (some b) clock #[] clock), ?_, ⟨arr, clock, #[], (Below.heap_alloc w _ b hlt).trans hb, heap_alloc_new w _, hs1, hs2, by rw [leftOf_empty]; exact hm, hn⟩, (Chg.refl _ _).alloc _, by simp⟩
  simp only [Instr.range, Sem.run_bind, run_underlying hT, Result.andThen, Go.MapKept.run_getObj_map hb, Sem.run_pure]
  rfl

theorem adel_at : ∀ (l1 : List (κ × Value)) (p : κ × Value) (l2 : List (κ × Value)), (akeys (l1 ++ p :: l2)).Nodup → adel (l1 ++ p :: l2) p.1 = l1 ++ l2 ∧ aget (l1 ++ p :: l2) p.1 = some p.2
  | [], p, l2, _ => by simp [adel, aget]
  | q :: l1, p, l2, h => by
    simp only [akeys, List.cons_append, List.map_cons, List.nodup_cons] at h
    have hne : q.1 ≠ p.1 := fun e => h.1 (by rw [e]; simp)
    obtain ⟨h1, h2⟩ := adel_at l1 p l2 h.2
    exact ⟨by simp [adel, hne, h1], by simp [aget, hne, h2]⟩

/-- a round's beginning: nothing is left, or some pair that is left -/
theorem Ranging.next (h : Ranging K w b r left) (ty : TypeId) :
    (left = [] ∧ (Instr.next (.pointer (some ⟨r, 0, none⟩)) false ty).run P w = .ok (.tuple #[.bool false]) w) ∨
    ∃ k v w', aget left k = some v ∧ (Instr.next (.pointer (some ⟨r, 0, none⟩)) false ty).run P w = .ok (.tuple #[.bool true, K k, v]) w' ∧ Ranging K w' b r (adel left k) ∧ Chg (fun i => i = r) w w' ∧ w'.heap.size = w.heap.size ∧
      (Instr.entry (.pointer (some ⟨r, 0, none⟩))).run P w' = .ok (.tuple #[K k, v]) w' := by
  obtain ⟨arr, clock, seen, hb, hr, hs1, hs2, hm, hn⟩ := h
  have hne : b ≠ r := by
    rintro rfl
    rw [hb] at hr
    cases hr
  have hlt : r < w.heap.size := (Array.getElem?_eq_some_iff.1 hr).1
  rcases run_next_at (P := P) w ty r b clock clock seen arr clock hr hb hs2 (Nat.le_refl _) with ⟨h0, hrun⟩ | ⟨e, he, w1, hw1, hrun⟩
  · left
    refine ⟨?_, hrun⟩
    have : (leftOf arr seen).toList = [] := List.eq_nil_of_length_eq_zero (by simpa using h0)
    rw [this] at hm
    simpa using hm.symm
  · right
    obtain ⟨l1, l2, hl⟩ := List.append_of_mem he
    rw [hl] at hm
    simp only [List.map_append, List.map_cons] at hm
    have hsplit : ∃ m1 p m2, left = m1 ++ p :: m2 ∧ l1.map (fun e => (e.key, e.val)) = m1.map (fun p => (K p.1, p.2)) ∧ (e.key, e.val) = (K p.1, p.2) ∧ l2.map (fun e => (e.key, e.val)) = m2.map (fun p => (K p.1, p.2)) := by
      have h1 := List.map_eq_append_iff.1 hm.symm
      obtain ⟨m1, m', e1, e2, e3⟩ := h1
      obtain ⟨p, m2, e4, e5, e6⟩ := List.map_eq_cons_iff.1 e3
      exact ⟨m1, p, m2, by rw [e1, e4], e2.symm, e5.symm, e6.symm⟩
    obtain ⟨m1, p, m2, rfl, hm1, hp, hm2⟩ := hsplit
    obtain ⟨hd, hg⟩ := adel_at m1 p m2 hn
    simp only [Prod.mk.injEq] at hp
    have hr1 : w1.heap = w.heap := by rcases hw1 with rfl | rfl <;> rfl
    have hc1 : Chg (fun i => i = r) w w1 := by rcases hw1 with rfl | rfl
                                               · exact Chg.refl _ _
                                               · exact (Chg.refl _ _).drew
    have heArr : e ∈ arr.toList := by
      simp only [leftOf, Array.toList_filter, List.mem_filter] at he
      exact he.1
    have hself : (setBlock w1 r (.mapIter (some b) clock (seen.push e.born) clock)).heap[r]? = some (.mapIter (some b) clock (seen.push e.born) clock) := setBlock_self (by rw [hr1]; exact hlt) _
    have hother : (setBlock w1 r (.mapIter (some b) clock (seen.push e.born) clock)).heap[b]? = some (.map arr clock) := by
      have : r ≠ b := fun e => hne e.symm
      simp only [Go.ChangeMaps.setBlock, hr1]
      rw [Array.getElem?_setIfInBounds_ne this]
      exact hb
    refine ⟨p.1, p.2, _, hg, by rw [hrun, hp.1, hp.2], ⟨arr, clock, seen.push e.born, hother, hself, hs1, hs2, ?_, ?_⟩, hc1.trans (chg_setBlock _ _ _), by simp [Go.ChangeMaps.setBlock, hr1], ?_⟩
    · rw [hd]
      have : (leftOf arr (seen.push e.born)).toList = l1 ++ l2 := by
        have hf : leftOf arr (seen.push e.born) = (leftOf arr seen).filter (fun x => x.born != e.born) := by
          unfold leftOf
          apply Array.ext'
          simp only [Array.toList_filter, List.filter_filter]
          apply List.filter_congr
          intro x hx
          simp only [Array.contains_eq_any_beq, ← Array.any_toList, Array.toList_push, List.any_append, List.any_cons, List.any_nil, Bool.or_false]
          cases seen.toList.any fun y => x.born == y <;> cases hb : x.born == e.born <;> simp_all [bne]
        rw [hf]
        simp only [Array.toList_filter, hl]
        have hnd : ((l1 ++ e :: l2).map (·.born)).Nodup := by
          rw [← hl]
          refine List.Sublist.nodup (List.Sublist.map _ ?_) hs1
          simp only [leftOf, Array.toList_filter]
          exact List.filter_sublist
        simp only [List.map_append, List.map_cons, List.nodup_append, List.nodup_cons, List.mem_cons, List.mem_map] at hnd
        obtain ⟨h1, ⟨h2, h3⟩, h4⟩ := hnd
        rw [List.filter_append, List.filter_cons_of_neg (by simp)]
        rw [List.filter_eq_self.2, List.filter_eq_self.2]
        · intro x hx
          simp only [bne_iff_ne]
          exact fun e' => h2 ⟨x, hx, e'⟩
        · intro x hx
          simp only [bne_iff_ne]
          exact h4 _ ⟨x, hx, rfl⟩ _ (.inl rfl)
      rw [this, List.map_append, List.map_append, hm1, hm2]
    · rw [hd]
      have : (akeys (m1 ++ m2)).Sublist (akeys (m1 ++ p :: m2)) := by
        simp only [akeys]
        exact List.Sublist.map _ (List.Sublist.append_left (List.sublist_cons_self _ _) _)
      exact this.nodup hn
    · have := run_entry_at (P := P) _ r b clock seen arr clock e hself hother heArr hs1
      rw [this, hp.1, hp.2]

theorem wpList_rng (w : World) {ops : Array Oper} {rest : List Oper} {o : Oper} {a : Act} {Q : Exit → Act → World → Prop} (hg : o.guard = none) (m : Operand) (T : TypeId) (hop : o.op = Op.range T m) {kt e : TypeId} (hT : P.underlying T = some (.map kt e)) (b : Nat) (es : List (κ × Value))
    (hm : a.eval m = .map (some b)) (h : MapIs K w b es)
    (hK : ∀ w', Ranging K w' b w.heap.size es → Chg No w w' → w'.heap.size = w.heap.size + 1 → wpList P ops Q rest (a.put o.dst (.pointer (some ⟨w.heap.size, 0, none⟩))) w') : wpList P ops Q (o :: rest) a w := by
  refine wpList_plain hg fun K' hK' => ?_
  obtain ⟨w', hrun, r1, r2, r3⟩ := h.range (P := P) hT
  unfold Oper.wp
  simp [execOp, hop, hm, hrun, Result.andThen]
  exact hK' _ _ (hK w' r1 r2 r3)

theorem wpList_nxt (w : World) {ops : Array Oper} {rest : List Oper} {o : Oper} {a : Act} {Q : Exit → Act → World → Prop} (hg : o.guard = none) (it : Operand) (hop : o.op = Op.next it false) (b r : Nat) (left : List (κ × Value))
    (hit : a.eval it = .pointer (some ⟨r, 0, none⟩)) (h : Ranging K w b r left)
    (hDone : left = [] → wpList P ops Q rest (a.put o.dst (.tuple #[.bool false])) w)
    (hMore : ∀ k v w', aget left k = some v → Ranging K w' b r (adel left k) → Chg (fun i => i = r) w w' → w'.heap.size = w.heap.size → (Instr.entry (.pointer (some ⟨r, 0, none⟩))).run P w' = .ok (.tuple #[K k, v]) w' → wpList P ops Q rest (a.put o.dst (.tuple #[.bool true, K k, v])) w') :
    wpList P ops Q (o :: rest) a w := by
  refine wpList_plain hg fun K' hK' => ?_
  unfold Oper.wp
  rcases h.next (P := P) o.type with ⟨h0, hrun⟩ | ⟨k, v, w', hat, hrun, hrg, hc, hsz, hen⟩
  · simp [execOp, hop, hit, hrun, Result.andThen]
    exact hK' _ _ (hDone h0)
  · simp [execOp, hop, hit, hrun, Result.andThen]
    exact hK' _ _ (hMore k v w' hat hrg hc hsz hen)
end
end Go.Proofs.Ytcmobcbecbajiaa
