/- bloom's filters. -/
import Derived.Test.YtinofdfjaopdcaaSum
import Derived.Test.YtinofdfjaopdcaaConv
import Derived.Deep.LoopGhost
namespace Go.Proofs.Ytinofdfjaopdcaa
open Go.RowKit
set_option linter.unusedSimpArgs false
set_option linter.unusedVariables false

abbrev tFilter : TypeId := 130
abbrev tBool : TypeId := 4
abbrev tInt : TypeId := 3
def bls (l : List Bool) : List Value := l.map (fun b => Value.bool b)
def nts (l : List Nat) : List Value := l.map fun (n : Nat) => Value.int .i64 (n : Int)
theorem bls_length (l : List Bool) : (bls l).length = l.length := by simp [bls]
theorem nts_length (l : List Nat) : (nts l).length = l.length := by simp [nts]
theorem nts_append (a b : List Nat) : nts (a ++ b) = nts a ++ nts b := by simp [nts]
theorem nts_one {l : List Nat} : ∀ u ∈ nts l, u.oneCell' = true := by
  intro u hu
  simp only [nts, List.mem_map] at hu
  obtain ⟨x, _, rfl⟩ := hu
  rfl
theorem ti_int : TI Try.prog tInt (.int .i64 0) 1 8 := (by kernel_rfl : (Try.prog.info? tInt).map (fun i => (i.zero, i.size, i.bytes)) = some (some (.int .i64 0), 1, 8))
theorem ti_bool : TI Try.prog tBool (.bool false) 1 1 := (by kernel_rfl : (Try.prog.info? tBool).map (fun i => (i.zero, i.size, i.bytes)) = some (some (.bool false), 1, 1))

/-- the filter in block p, its bits in block q -/
structure Flt (w : World) (p q : Nat) (bs : List Bool) : Prop where
  head : Blk w p tFilter #[.slice (some ⟨q, 0, none⟩) 256 256, .int .i64 3]
  bits : Blk w q tBool (bls bs).toArray
  len : bs.length = 256
section
variable {S : Nat → Prop} {w w' : World} {p q : Nat} {bs : List Bool}
theorem Flt.chg (h : Flt w p q bs) (hc : Chg S w w') (h1 : ¬ S p) (h2 : ¬ S q) : Flt w' p q bs := ⟨h.head.chg hc h1, h.bits.chg hc h2, h.len⟩
theorem Flt.ne_ (h : Flt w p q bs) : p ≠ q := h.head.ne_ h.bits (by decide)
end


set_option maxRecDepth 100000 in
theorem bnew_calls (w : World) :
    Calls Try.prog 62 #[.int .i64 256, .int .i64 3] w fun e w' => ∃ p q, e = .returned (.tuple #[.pointer (some ⟨p, 0, none⟩), .int .i64 0]) ∧ w.heap.size ≤ p ∧ w.heap.size ≤ q ∧ Flt w' p q (List.replicate 256 false) ∧ Chg No w w' := by
  have HM : (Instr.makeSlice 115 (.int .i64 256) (.int .i64 256)).run Try.prog w = .ok (.slice (some ⟨w.heap.size, 0, none⟩) 256 256) (w.alloc (.cells (mk 256 (.bool false)) tBool)) := run_mk (P := Try.prog) w Try.underlying115 ti_bool rfl 256 (by decide) (by decide)
  go_enter Try.func62, Try.ntmps62
  go_wp2
  go_ret2
  refine ⟨w.heap.size + 1, w.heap.size, rfl, by omega, Nat.le_refl _, ?_, ((Chg.refl _ _).alloc _).alloc _⟩
  have h1 := Blk.new (w.alloc (.cells (mk 256 (.bool false)) tBool)) tFilter #[.slice (some ⟨w.heap.size, 0, none⟩) 256 256, .int .i64 3]
  rw [World.size_alloc] at h1
  refine ⟨h1, ?_, List.length_replicate⟩
  have h2 := (Blk.new w tBool (mk 256 (.bool false))).alloc (.cells #[.slice (some ⟨w.heap.size, 0, none⟩) 256 256, .int .i64 3] tFilter)
  have e : (bls (List.replicate 256 false)).toArray = mk 256 (.bool false) := by
    unfold bls mk
    rw [List.map_replicate]
  rw [e]
  exact h2

theorem conv_int (h : Nat) (hh : h < 256) : IntKind.i64.wrap (h : Int) = h := IntWalk.i64_in _ (by omega)

set_option maxRecDepth 100000 in
theorem places_calls (p q : Nat) (bs : List Bool) (s : ByteArray) (w : World) (hf : Flt w p q bs) (hs : s.size ≤ 140737488351232) :
    Calls Try.prog 90 #[.pointer (some ⟨p, 0, none⟩), .string s] w fun e w' => ∃ v, e = .returned v ∧ w'.ownsRow w.heap.size tInt 1 v 3 (nts (places 256 3 s.data.toList)) ∧ Chg No w w' := by
  have H1 := Lib.hid (hash_calls s w hs)
  have H2 := Lib.hid (second_calls s w hs)
  obtain ⟨h, hh⟩ : ∃ h, h = khash s.data.toList := ⟨_, rfl⟩
  obtain ⟨t, ht⟩ : ∃ t, t = ksecond s.data.toList := ⟨_, rfl⟩
  have hhl : h < 18446744073709551616 := by rw [hh]; exact khash_lt _
  have htl : t < 18446744073709551616 := by rw [ht]; exact ksecond_lt _
  have hor := bits_or1 t htl
  obtain ⟨u, hu⟩ : ∃ u, u = t ||| 1 := ⟨_, rfl⟩
  have hul : u < 18446744073709551616 := by rw [hu]; exact or1_lt htl
  rw [← hu] at hor
  have HPL : Hid (places 256 3 s.data.toList = placesFrom 256 h u 3) := by
    show _ = _
    rw [hu, hh, ht]; rfl
  rw [← hh] at H1
  rw [← ht] at H2
  have HF := Lib.hid hf
  have c0 := hf.head.cell 0
  have c1 := hf.head.cell 1
  simp at c0 c1
  clear hh ht hu hf
  go_enter Try.func90, Try.ntmps90
  go_wp2_with fail
  refine H1.out.mono ?_
  rintro e w1 ⟨rfl, rfl⟩
  go_wp2_with fail
  refine H2.out.mono ?_
  rintro e w1 ⟨rfl, rfl⟩
  go_wp2
  go_loopg [5, 6, 17] 3 (fun g v5 v6 v17 wr => ∃ (k z : Nat) (acc : List Nat), v17 = .int .i64 k ∧ v6 = .int .u64 z ∧ k ≤ 3 ∧ g = 3 - k ∧ z < 18446744073709551616 ∧
    Hid (placesFrom 256 h u 3 = acc ++ placesFrom 256 z u (3 - k) ∧ acc.length = k ∧ wr.ownsRow w.heap.size tInt 1 v5 acc.length (nts acc) ∧ Chg No w wr))
  case atStart => exact ⟨0, h, [], rfl, rfl, by omega, rfl, hhl, ⟨rfl, rfl, by simpa [nts] using World.ownsRow_nil w w.heap.size tInt 1, Chg.refl _ _⟩⟩
  case round =>
    obtain ⟨k, z, acc, rfl, rfl, hk, rfl, hz, H⟩ := hrel
    have hf1 := HF.out.chg H.out.2.2.2 (fun h => h) (fun h => h)
    have c0 := hf1.head.cell 0
    have c1 := hf1.head.cell 1
    simp at c0 c1
    have HA := Lib.hid H.out.1
    have hal := H.out.2.1
    have HN := Lib.hid H.out.2.1
    have HO := Lib.hid H.out.2.2.1
    have HC := Lib.hid H.out.2.2.2
    have hbase := H.out.2.2.2.size
    clear hf1 H
    by_cases h0 : k < 3
    · have hz256 : z % 256 < 256 := Nat.mod_lt _ (by decide)
      go_wp2_with (first
        | (at_builtin; refine wpList_app _ rfl (.tmp 19) (.tmp 29) 132 rfl tInt Try.underlying132 ti_int rfl (by omega) w.heap.size _ acc.length (nts acc) rfl (HO.out.alloc _) tInt _ 1 1 (nts [z % 256]) rfl (Rd.ofBlk (k := 1) (Blk.new _ _ _) (by simp)) nts_one (by simp only [maxLen]; omega) (by omega) (by simp; omega) ?_; intro v2 w2 ho2 hg2 hb2; have HO2 := Lib.hid ho2; have HG2 := Lib.hid hg2; clear ho2 hg2 hb2))
      go_roundg (3 - (k + 1))
      case measure => omega
      case rel =>
        refine ⟨k + 1, (z + u) % 18446744073709551616, acc ++ [z % 256], rfl, ?_, by omega, rfl, Nat.mod_lt _ (by decide), ?_, ?_, ?_, ?_⟩
        · rw [IntKind.wrap_u64]
          congr 1
        · rw [HA.out, show 3 - k = (3 - (k + 1)) + 1 by omega, placesFrom]; simp
        · simp; omega
        · have := HO2.out
          rw [nts_append]
          simpa using this
        · exact ((HC.out.alloc _)).grown HG2.out (fun k' hk' => .inr (own_new HO.out k' hk'))
    · have e3 : k = 3 := by omega
      subst e3
      go_wp2
      go_ret
      refine ⟨_, rfl, ?_, HC.out⟩
      rw [HPL.out, HA.out]
      simp only [placesFrom, Nat.sub_self, List.append_nil]
      have := HO.out
      rw [HN.out] at this
      exact this

theorem bls_set (bs : List Bool) (i : Nat) (b : Bool) : (bls (bs.set i b)) = (bls bs).set i (.bool b) := by simp [bls, List.map_set]
theorem bls_get (bs : List Bool) (i : Nat) (h : i < bs.length) : (bls bs)[i]? = some (.bool (bs.getD i false)) := by
  simp [bls, h, List.getD_eq_getElem?_getD]
theorem nts_get (l : List Nat) (i : Nat) (h : i < l.length) : (nts l)[i]? = some (.int .i64 (l[i] : Nat)) := by
  simp [nts, h]

set_option maxRecDepth 100000 in
theorem badd_calls (p q : Nat) (bs : List Bool) (s : ByteArray) (w : World) (hf : Flt w p q bs) (hs : s.size ≤ 140737488351232) :
    Calls Try.prog 64 #[.pointer (some ⟨p, 0, none⟩), .string s] w fun e w' => e = .returned (.tuple #[]) ∧ Flt w' p q (fadd bs (places 256 3 s.data.toList)) ∧ Chg (fun i => i = q) w w' := by
  have H := Lib.hid (places_calls p q bs s w hf hs)
  have HF := Lib.hid hf
  obtain ⟨l, hl⟩ : ∃ l, l = places 256 3 s.data.toList := ⟨_, rfl⟩
  have hll : l.length = 3 := by rw [hl]; exact places_length _ _ _
  have hlt : ∀ i ∈ l, i < 256 := by rw [hl]; exact places_lt (by decide) _ _
  rw [← hl] at H
  rw [← hl]
  have HLT := Lib.hid hlt
  have HQ := hf.head.lt
  have HQ2 := hf.bits.lt
  have hpq := hf.ne_
  clear hl hf hlt
  go_enter Try.func64, Try.ntmps64
  go_wp2_with fail
  refine H.out.mono ?_
  rintro e w1 ⟨v, rfl, ho1, hc1⟩
  obtain ⟨A1, c1, rfl, hc1n, hrd1⟩ := own_slice ho1
  have HR := Lib.hid hrd1
  have HF1 := Lib.hid (HF.out.chg hc1 (fun h => h) (fun h => h))
  have HC1 := Lib.hid hc1
  clear hc1 ho1 hrd1
  go_wp2
  go_loopg [10] 3 (fun g v10 wr => ∃ k : Nat, v10 = .int .i64 k ∧ k ≤ 3 ∧ g = 3 - k ∧
    Hid (Flt wr p q (fadd bs (l.take k)) ∧ Chg (fun i => i = q) w1 wr))
  case atStart => exact ⟨0, rfl, by omega, rfl, ⟨by simpa [fadd] using HF1.out, Chg.refl _ _⟩⟩
  case round =>
    obtain ⟨k, rfl, hk, rfl, H⟩ := hrel
    by_cases h0 : k < 3
    · have hrr : Rd wr tInt A1 (3 * 1) (nts l) := HR.out.chg H.out.2 (by
        rintro g cur fz hg rfl
        have := HF1.out.bits
        unfold Blk at this
        rw [this] at hg
        cases hg)
      obtain ⟨g, off, rfl, hg, hx⟩ := hrr.at_ (j := k) (by omega)
      have hkl : k < l.length := by omega
      obtain ⟨i, hi⟩ : ∃ i, i = l[k] := ⟨_, rfl⟩
      have hi256 : i < 256 := by rw [hi]; exact HLT.out _ (List.getElem_mem _)
      have ci := hx k _ (nts_get l k hkl)
      rw [← hi] at ci
      have cq := H.out.1.head.cell 0
      simp at cq
      have cb := H.out.1.bits.cell i
      have hbl := H.out.1.len
      have fz := H.out.1.bits.frozen i
      simp only [List.getElem?_toArray] at cb
      rw [bls_get _ _ (by omega)] at cb
      have HI := Lib.hid hi
      have HH := Lib.hid H.out.1
      have HCC := Lib.hid H.out.2
      clear hrr hx hi H
      go_wp2
      go_roundg (3 - (k + 1))
      case measure => omega
      case rel =>
        refine ⟨k + 1, rfl, by omega, rfl, ?_, ?_⟩
        · have e : fadd bs (l.take (k + 1)) = (fadd bs (l.take k)).set i true := by
            rw [List.take_add_one, List.getElem?_eq_getElem hkl, ← HI.out]
            simp [fadd]
          rw [e]
          refine ⟨HH.out.head.far hpq _, ?_, by simpa using hbl⟩
          have := HH.out.bits.set_ i (.bool true)
          rw [bls_set]
          simpa using this
        · exact HCC.out.setCell (.inl rfl) _
    · have e3 : k = 3 := by omega
      subst e3
      rw [List.take_of_length_le (by omega)] at H
      have HH := Lib.hid H
      go_wp2
      go_end0
      exact ⟨rfl, HH.out.1, (HC1.out.mono (fun _ _ h => h.elim)).trans HH.out.2⟩

set_option maxRecDepth 100000 in
theorem bmay_calls (p q : Nat) (bs : List Bool) (s : ByteArray) (w : World) (hf : Flt w p q bs) (hs : s.size ≤ 140737488351232) :
    Calls Try.prog 70 #[.pointer (some ⟨p, 0, none⟩), .string s] w fun e w' => e = .returned (.bool (fmay bs (places 256 3 s.data.toList))) ∧ Chg No w w' := by
  have H := Lib.hid (places_calls p q bs s w hf hs)
  have HF := Lib.hid hf
  obtain ⟨l, hl⟩ : ∃ l, l = places 256 3 s.data.toList := ⟨_, rfl⟩
  have hll : l.length = 3 := by rw [hl]; exact places_length _ _ _
  have hlt : ∀ i ∈ l, i < 256 := by rw [hl]; exact places_lt (by decide) _ _
  rw [← hl] at H
  rw [← hl]
  have HLT := Lib.hid hlt
  clear hl hf hlt
  go_enter Try.func70, Try.ntmps70
  go_wp2_with fail
  refine H.out.mono ?_
  rintro e w1 ⟨v, rfl, ho1, hc1⟩
  obtain ⟨A1, c1, rfl, hc1n, hrd1⟩ := own_slice ho1
  have HR := Lib.hid hrd1
  have HF1 := Lib.hid (HF.out.chg hc1 (fun h => h) (fun h => h))
  have HC1 := Lib.hid hc1
  clear hc1 ho1 hrd1
  go_wp2
  go_loopg [11] 3 (fun g v10 wr => ∃ k : Nat, v10 = .int .i64 k ∧ k ≤ 3 ∧ g = 3 - k ∧ wr = w1 ∧ Hid (fmay bs (l.take k) = true))
  case atStart => exact ⟨0, rfl, by omega, rfl, rfl, rfl⟩
  case round =>
    obtain ⟨k, rfl, hk, rfl, rfl, H⟩ := hrel
    by_cases h0 : k < 3
    · obtain ⟨g, off, rfl, hg, hx⟩ := HR.out.at_ (j := k) (by omega)
      have hkl : k < l.length := by omega
      obtain ⟨i, hi⟩ : ∃ i, i = l[k] := ⟨_, rfl⟩
      have hi256 : i < 256 := by rw [hi]; exact HLT.out _ (List.getElem_mem _)
      have ci := hx k _ (nts_get l k hkl)
      rw [← hi] at ci
      have cq := HF1.out.head.cell 0
      simp at cq
      have cb := HF1.out.bits.cell i
      simp only [List.getElem?_toArray] at cb
      rw [bls_get _ _ (by have := HF1.out.len; omega)] at cb
      have HI := Lib.hid hi
      have hstep : Hid (fmay bs (l.take (k + 1)) = bs.getD i false) := by
        show _ = _
        have := H.out
        rw [List.take_add_one, List.getElem?_eq_getElem hkl, ← hi]
        unfold fmay at this ⊢
        rw [Option.toList, List.all_append, this]
        simp
      have hmi : i ∈ l := by rw [hi]; exact List.getElem_mem _
      have HMI := Lib.hid hmi
      clear hx hi hmi
      cases hb : bs.getD i false with
      | true =>
        rw [hb] at cb hstep
        clear hb
        go_wp2
        go_roundg (3 - (k + 1))
        case measure => omega
        case rel => exact ⟨k + 1, rfl, by omega, rfl, rfl, hstep⟩
      | false =>
        rw [hb] at cb
        have HB := Lib.hid hb
        clear hb
        go_wp2
        go_ret
        refine ⟨?_, HC1.out⟩
        have : fmay bs l = false := by
          rw [Bool.eq_false_iff]
          intro h
          have := List.all_eq_true.1 h i HMI.out
          rw [HB.out] at this
          cases this
        rw [this]; rfl
    · have e3 : k = 3 := by omega
      subst e3
      rw [List.take_of_length_le (by omega)] at H
      go_wp2
      go_ret
      exact ⟨by rw [H.out]; rfl, HC1.out⟩

end Go.Proofs.Ytinofdfjaopdcaa
