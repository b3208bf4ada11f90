/- Strings as bytes and back; over any program. -/
import Derived.Test.YtcmobcbecbajiaaFlashRep
import Derived.Test.YtcmobcbecbajiaaAppend
import Derived.Laws.IdiomStrings
namespace Go.Proofs.Ytcmobcbecbajiaa
open Go.RowKit
set_option linter.unusedSimpArgs false
set_option linter.unusedVariables false

section
variable {P : Program} (w : World)

theorem run_b2s {src dst e : TypeId} (A : Option Addr) (n c : Nat) (b : List UInt8) (hs : P.underlying src = some (.slice e)) (he : P.underlying e = some (.int .u8)) (hd : P.underlying dst = some .string) (te : TypeId) (hr : Rd w te A n (bys b)) :
    (convert src dst (.slice A n c)).run P w = .ok (.string ⟨b.toArray⟩) w := by
  have hl : b.length = n := by rw [← bys_length]; exact hr.1
  rcases A with _ | ad
  · have h0 : n = 0 := by
      rcases Nat.eq_zero_or_pos n with h0 | h0
      · exact h0
      · obtain ⟨g, off, cur, fz, h, _⟩ := hr.2 h0
        cases h
    subst h0
    have hb : b = [] := List.eq_nil_of_length_eq_zero hl
    subst hb
    rw [run_convert_bytes_string w src dst e none 0 c hs he hd]
    simp [Conv.bytesToString, Sem.run_pure]
    rfl
  · subst hl
    refine run_convert_bytes_back w src dst e ad c b hs he hd ?_
    intro j hj
    obtain ⟨g, off, cur, fz, h, hg, hx⟩ := hr.2 (by omega)
    injection h with h
    subst h
    have hadd : (⟨g, off, none⟩ : Addr).add j = ⟨g, off + j, none⟩ := by unfold Addr.add; split <;> simp_all
    rw [hadd, cell_of_row w g _ cur te fz hg]
    exact hx j _ (by simp [bys, List.getElem?_eq_getElem hj])

theorem run_s2b {src dst e : TypeId} (s : ByteArray) (hs : P.underlying src = some .string) (hd : P.underlying dst = some (.slice e)) (he : P.underlying e = some (.int .u8)) :
    ∃ cap w', (convert src dst (.string s)).run P w = .ok (.slice (some ⟨w.heap.size, 0, none⟩) s.size cap) w' ∧ s.size ≤ cap ∧ Rd w' e (some ⟨w.heap.size, 0, none⟩) s.size (bys s.data.toList) ∧ Chg No w w' ∧ w'.heap.size = w.heap.size + 1 := by
  refine ⟨_, _, run_bytes_of_string w src dst e s hs hd he, grownCap_ge _ _ _ _, ?_, ((Chg.refl No w).drew).alloc _, by simp⟩
  refine ⟨by rw [bys_length]; exact Array.length_toList, fun h0 => ⟨w.heap.size, 0, _, _, rfl, heap_alloc_new w.drew _, ?_⟩⟩
  intro j u hu
  obtain ⟨x, hx, rfl⟩ := bys_get hu
  have hj : j < s.data.size := by
    have := (List.getElem?_eq_some_iff.1 hx).1
    simpa using this
  simp only [bytesRow, Nat.zero_add]
  rw [Array.getElem?_append_left (by rw [Array.size_map]; exact hj), Array.getElem?_map]
  rw [Array.getElem?_toList] at hx
  rw [hx]
  rfl

theorem wpList_s2b {ops : Array Oper} {rest : List Oper} {o : Oper} {a : Act} {Q : Exit → Act → World → Prop} (hgd : o.guard = none) (src dst : TypeId) (x : Operand) (ho : o.op = .convert src dst x)
    {e : TypeId} (hs : P.underlying src = some .string) (hd : P.underlying dst = some (.slice e)) (he : P.underlying e = some (.int .u8)) (s : ByteArray) (hx : a.eval x = .string s)
    (h : ∀ cap w', s.size ≤ cap → Rd w' e (some ⟨w.heap.size, 0, none⟩) s.size (bys s.data.toList) → Chg No w w' → w'.heap.size = w.heap.size + 1 → wpList P ops Q rest (a.put o.dst (.slice (some ⟨w.heap.size, 0, none⟩) s.size cap)) w') :
    wpList P ops Q (o :: rest) a w := by
  refine wpList_plain hgd fun K hK => ?_
  obtain ⟨cap, w', hrun, h1, h2, h3, h4⟩ := run_s2b (P := P) w s hs hd he
  unfold Oper.wp execOp
  simp only [ho, hx, Sem.run_bind, hrun, Result.andThen_ok, Sem.run_pure]
  exact hK _ _ (h cap w' h1 h2 h3 h4)
end

theorem if_add_zero (q : Prop) [Decidable q] (A : Option Addr) (size : Nat) (k : Nat) (h0 : k = 0) : (if q then A else A.map (·.add (k * size))) = A := by
  subst h0
  split
  · rfl
  · cases A <;> simp [Addr.add]

/-- x[lo:hi], wherever it lies: its run in whatever world, and what it reads -/
theorem sub_slice {P : Program} {T e : TypeId} {z : Value} {size bytes : Nat} (hT : P.underlying T = some (.slice e)) (hi : TI P e z size bytes) (A : Option Addr) (n c : Nat) (l h : Int) (h0 : 0 ≤ l) (h1 : l ≤ h) (h2 : h ≤ c) :
    ∃ A', (∀ W : World, (Instr.slice T (.slice A n c) (some (.int .i64 l)) (some (.int .i64 h)) none).run P W = .ok (.slice A' (h.toNat - l.toNat) (c - l.toNat)) W) ∧
      ∀ (W : World) (t : TypeId) (xs : List Value), Rd W t A (n * size) xs → h.toNat ≤ n → Rd W t A' ((h.toNat - l.toNat) * size) ((xs.drop (l.toNat * size)).take ((h.toNat - l.toNat) * size)) := by
  obtain ⟨i, hi', hz, hs, hby⟩ := info_parts hi
  refine ⟨if c = l.toNat then A else A.map (·.add (l.toNat * size)), fun W => ?_, fun W t xs hr hn => ?_⟩
  · have hsz : (sizeOf e).run P W = .ok size W := by simp [sizeOf, typeInfo, hi', hs]
    have eh : (h.toNat : Int) = h := Int.toNat_of_nonneg (by omega)
    simp only [Instr.slice, Sem.run_bind, run_underlying hT, Result.andThen, Instr.sliceBounds, Sem.run_pure]
    rw [run_sliceBound _ _ _ _ _ (by omega) (by omega)]
    simp only [Option.isSome_none, Bool.false_eq_true, if_false]
    rw [run_sliceBound _ _ _ _ _ (by omega) (by omega)]
    simp only [hsz]
  · have hd := hr.drop (m := l.toNat * size) (Nat.mul_le_mul_right _ (by omega)) (c = l.toNat ∧ False) (fun hh => hh.2.elim)
    simp only [and_false, if_false] at hd
    have ht := hd.take (m := (h.toNat - l.toNat) * size) (by rw [← Nat.sub_mul]; exact Nat.mul_le_mul_right _ (by omega))
    by_cases hc : c = l.toNat
    · have hz0 : h.toNat - l.toNat = 0 := by omega
      rw [if_pos hc, hz0, Nat.zero_mul, List.take_zero]
      exact Rd.nil _ _ _
    · rw [if_neg hc]
      exact ht

/-- x[lo:], likewise -/
theorem sub_slice_l {P : Program} {T e : TypeId} {z : Value} {size bytes : Nat} (hT : P.underlying T = some (.slice e)) (hi : TI P e z size bytes) (A : Option Addr) (n c : Nat) (l : Int) (h0 : 0 ≤ l) (h1 : l ≤ n) (hnc : n ≤ c) :
    ∃ A', (∀ W : World, (Instr.slice T (.slice A n c) (some (.int .i64 l)) none none).run P W = .ok (.slice A' (n - l.toNat) (c - l.toNat)) W) ∧
      ∀ (W : World) (t : TypeId) (xs : List Value), Rd W t A (n * size) xs → Rd W t A' ((n - l.toNat) * size) (xs.drop (l.toNat * size)) := by
  obtain ⟨i, hi', hz, hs, hby⟩ := info_parts hi
  refine ⟨if c = l.toNat then A else A.map (·.add (l.toNat * size)), fun W => ?_, fun W t xs hr => ?_⟩
  · have hsz : (sizeOf e).run P W = .ok size W := by simp [sizeOf, typeInfo, hi', hs]
    simp only [Instr.slice, Sem.run_bind, run_underlying hT, Result.andThen, Instr.sliceBounds, Sem.run_pure]
    rw [run_sliceBound _ _ _ _ _ (by omega) (by omega)]
    simp only [hsz]
  · have hd := hr.drop (m := l.toNat * size) (Nat.mul_le_mul_right _ (by omega)) (c = l.toNat ∧ False) (fun hh => hh.2.elim)
    simp only [and_false, if_false] at hd
    by_cases hc : c = l.toNat
    · have hz0 : n - l.toNat = 0 := by omega
      have hnl : n = l.toNat := by omega
      rw [if_pos hc, hz0, Nat.zero_mul, List.drop_of_length_le (by rw [hr.1, ← hnl]; exact Nat.le_refl _)]
      exact Rd.nil _ _ _
    · rw [if_neg hc, Nat.sub_mul]
      exact hd
end Go.Proofs.Ytcmobcbecbajiaa
