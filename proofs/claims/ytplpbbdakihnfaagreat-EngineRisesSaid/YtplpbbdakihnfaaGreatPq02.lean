/- Packed texts: FlashB, RecSpec, RecA, RecB, Conv, RecC. -/
import Derived.Test.YtplpbbdakihnfaaGreatPq01
import Derived.Laws.BitsLemmas
import Derived.Lib.EndianBits
import Derived.Deep.LoopGhost
import Derived.Laws.IdiomStrings
import Derived.Deep.RegionHeld3
import Derived.Deep.DeepCutAuto
set_option linter.unusedSimpArgs false
set_option linter.unusedVariables false
section
namespace Go.Proofs.YtplpbbdakihnfaaGreat
open Go.RowKit
open Go.ChangeMaps (setBlock)
abbrev tBytes : TypeId := 40
theorem ti_u8 : TI Tryz.prog tU8 (.int .u8 0) 1 1 := (by kernel_rfl : (Tryz.prog.info? tU8).map (fun i => (i.zero, i.size, i.bytes)) = some (some (.int .u8 0), 1, 1))
theorem bys_one {b : List UInt8} : ∀ u ∈ bys b, u.oneCell' = true := by
  intro u hu
  simp only [bys, List.mem_map] at hu
  obtain ⟨x, _, rfl⟩ := hu
  rfl
theorem Rd.none_zero {w : World} {t : TypeId} {k : Nat} {xs : List Value} (h : Rd w t none k xs) : k = 0 ∧ xs = [] := by
  rcases Nat.eq_zero_or_pos k with h0 | h0
  · exact ⟨h0, List.eq_nil_of_length_eq_zero (by rw [h.1, h0])⟩
  · obtain ⟨g, off, cur, fz, h, _⟩ := h.2 h0
    cases h
theorem cloneBytes_calls (A : Option Addr) (n c : Nat) (b : List UInt8) (w : World) (hr : Rd w tU8 A n (bys b)) (hn : n ≤ 140737488351232) :
    Calls Tryz.prog 91 #[.slice A n c] w fun e w' => ∃ v, e = .returned v ∧ w'.ownsRow w.heap.size tU8 1 v n (bys b) ∧ Chg No w w' := by
  rcases A with _ | ad
  · obtain ⟨rfl, hb⟩ := hr.none_zero
    rw [hb]
    have hq := Lib.run_eql_slice_nil (P := Tryz.prog) w tBytes tU8 none 0 c 0 0 Tryz.underlying40
    have ho := World.ownsRow_nil w w.heap.size tU8 1
    have HO := Lib.hid ho
    clear ho hr hb
    go_enter Tryz.func91, Tryz.ntmps91
    go_wp2
    go_ret
    exact ⟨_, rfl, HO.out, Chg.refl _ _⟩
  · have hq := Lib.run_eql_slice_nil (P := Tryz.prog) w tBytes tU8 (some ad) n c 0 0 Tryz.underlying40
    have HR := Lib.hid (hr.alloc (.cells #[] tU8))
    have HO := Lib.hid (own_empty w tU8 1)
    clear hr
    go_enter Tryz.func91, Tryz.ntmps91
    go_wp2_with (first
      | (at_builtin; refine wpList_app _ rfl _ _ tBytes rfl tU8 Tryz.underlying40 ti_u8 rfl (by omega) w.heap.size _ 0 [] rfl HO.out tU8 _ n c (bys b) rfl (by simpa using HR.out) bys_one (by simp only [maxLen]; omega) (by omega) (by simp) ?_; intro v1 w1 ho1 hg1 hb1; have HO1 := Lib.hid ho1; have HG1 := Lib.hid hg1; clear ho1 hg1 hb1))
    go_ret
    refine ⟨v1, rfl, by simpa using HO1.out, ?_⟩
    have hc : Chg No w (w.alloc (.cells #[] tU8)) := by (repeat (first | (with_reducible exact Chg.refl _ _) | (with_reducible assumption) | (with_reducible refine Chg.drewN ?_ _) | (with_reducible refine Chg.drew ?_) | (with_reducible refine Chg.alloc ?_ _) | (with_reducible refine Chg.setCell ?_ (by first | (left; simp [DevH.foot]; done) | (right; simp; done) | (right; simp; omega)) _)))
    exact hc.grown HG1.out (by intro k hk; injection hk with hk; exact .inr (Nat.le_of_eq hk))
theorem DevN.apart {N : Nat} {w : World} {h : DevH} {D : Dev} (hd : DevN N w h D) : h.F ≠ h.d ∧ h.M ≠ h.d ∧ h.M ≠ h.F := by
  obtain ⟨a, b, c, e, hb⟩ := hd.box
  obtain ⟨ps, g, _⟩ := hd.row
  obtain ⟨es, m, _⟩ := hd.map
  exact ⟨g.ne_ hb (by decide), m.ne_blk hb, m.ne_blk g⟩
theorem WaitAt.put {N : Nat} {w : World} {es : List (Int × Value)} {n : Nat} {wt : Nat → Option Pg} (hw : WaitAt N w es n wt) (hnd : (akeys es).Nodup) {k : Nat} (hk : k < n) {v : Value} {p : Pg} (hv : PgAt N w v p) :
    WaitAt N w (aset es (k : Int) v) n (fun i => if i = k then some p else wt i) := by
  constructor
  · intro k' v' hm
    have hg := aget_of_mem (nodup_aset es (k : Int) v hnd) hm
    rw [aget_aset] at hg
    by_cases e : (k : Int) = k'
    · rw [if_pos e] at hg
      injection hg with hg
      subst hg; subst e
      exact ⟨k, p, rfl, hk, by simp, hv⟩
    · rw [if_neg e] at hg
      obtain ⟨i, pg, e1, e2, e3, e4⟩ := hw.1 k' v' (aget_mem hg)
      refine ⟨i, pg, e1, e2, ?_, e4⟩
      have : i ≠ k := fun h => e (by rw [e1, h])
      simp [this, e3]
  · intro i pg hi
    rw [aget_aset]
    by_cases e : k = i
    · exact ⟨v, by simp [e]⟩
    · rw [if_neg (by omega)]
      have : i ≠ k := fun h => e h.symm
      simp only [this, if_false] at hi
      exact hw.2 i pg hi
theorem WaitAt.chg {N N' : Nat} {w w' : World} {es : List (Int × Value)} {n : Nat} {wt : Nat → Option Pg} (hw : WaitAt N w es n wt) (hp : ∀ v p, PgAt N w v p → PgAt N' w' v p) : WaitAt N' w' es n wt :=
  ⟨fun k v hk => by
    obtain ⟨i, pg, e1, e2, e3, e4⟩ := hw.1 k v hk
    exact ⟨i, pg, e1, e2, e3, hp _ _ e4⟩, hw.2⟩
theorem spend_n (D : Dev) : D.spend.n = D.n := by
  unfold Dev.spend
  split
  · rfl
  · split
    · rfl
    · split <;> rfl
theorem change_calls {N : Nat} {w : World} {h : DevH} {D : Dev} (hd : DevN N w h D) (k : Nat) (hk : k < D.n) (v : Value) (p : Pg) (hp : PgAt w.heap.size w v p) :
    Calls Tryz.prog 108 #[.pointer (some ⟨h.d, 0, none⟩), .int .i64 k, v] w fun e w' => e = .returned (.int .i64 D.changeE) ∧ DevAt w' h (D.change k p) ∧ Chg h.foot w w' := by
  have hspend := Lib.hid (spend_calls hd)
  by_cases c0 : D.spent = true
  · rw [show D.changeE = 0 from by simp [Dev.changeE, c0], show D.change k p = D.spend.put k p from by simp [Dev.change, c0]]
    rw [c0] at hspend
    go_enter Tryz.func108, Tryz.ntmps108
    go_wp2_with fail
    refine hspend.out.mono ?_
    rintro e w1 ⟨rfl, hd1, hc1⟩
    obtain ⟨a, b, c, e, hb⟩ := hd1.box
    have hc0 := hb.cell 1
    simp at hc0
    obtain ⟨nF, nM, nMF⟩ := hd1.apart
    obtain ⟨es, hm, hw⟩ := hd1.map
    obtain ⟨o, hrun, hm'⟩ := hm.update (keyLaw_int (Tryz.underlying3)) Tryz.underlying74 (k : Int) v
    obtain ⟨w2, hw2⟩ : ∃ w2, w2 = setBlock w1 h.M o := ⟨_, rfl⟩
    have hc2 : Chg h.foot w1 w2 := by rw [hw2]; exact (Chg.refl _ _).setBlock (.inl (by simp [DevH.foot])) _
    have hc2' : Chg (fun i => i = h.M) w1 w2 := by rw [hw2]; exact chg_setBlock _ _ _
    rw [← hw2] at hrun hm'
    clear hw2
    have hb2 := hb.chg hc2' (fun e => nM e.symm)
    have h5 := hb2.cell 5
    simp at h5
    have f5 := hb2.frozen 5
    have fin : DevAt (w2.setCell ⟨h.d, 5, none⟩ (.int .i64 (wrap64 (a + 1)))) h (D.spend.put k p) ∧ Chg h.foot w (w2.setCell ⟨h.d, 5, none⟩ (.int .i64 (wrap64 (a + 1)))) := by
      have hc3 : Chg h.foot w1 (w2.setCell ⟨h.d, 5, none⟩ (.int .i64 (wrap64 (a + 1)))) := hc2.setCell (.inl (by simp [DevH.foot])) _
      have hc4 : Chg (fun i => i = h.d) w2 (w2.setCell ⟨h.d, 5, none⟩ (.int .i64 (wrap64 (a + 1)))) := chg_setCell w2 ⟨h.d, 5, none⟩ _
      refine ⟨hd1.step hc3 rfl ⟨wrap64 (a + 1), b, c, e, ?_⟩ (.inr ⟨rfl, ?_⟩) (.inl ⟨aset es (k : Int) v, hm'.chg hc4 nM, ?_⟩) hd1.armed, hc1.trans hc3⟩
      · have := hb2.set_ 5 (.int .i64 (wrap64 (a + 1)))
        simpa [Dev.put] using this
      · rw [Below.heap_setCell _ _ _ _ nF]
        exact hc2'.block _ (by obtain ⟨ps, g, _⟩ := hd1.row; exact g.lt) (fun e => nMF e.symm)
      · have hk' : k < D.spend.n := by rw [spend_n]; exact hk
        have hp' : PgAt w1.heap.size w1 v p := by
          refine (hp.chg hc1 ?_).mono hc1.size
          intro g cs t _ ht hb
          refine hd.not_foot hb ?_ ?_ <;> rcases ht with rfl | rfl <;> decide
        refine (hw.put hm.nodup hk' hp').chg (fun v p h => (h.chg hc3 ?_).mono hc3.size) 
        intro g cs t _ ht hb
        refine hd1.not_foot hb ?_ ?_ <;> rcases ht with rfl | rfl <;> decide
    have F := Lib.hid fin
    clear fin hc2 hc2' hb2 hb hm hm' hw hd1 hc1 nF nM nMF hspend hd hp
    go_wp2
    go_ret
    exact ⟨rfl, F.out⟩
  · have c1 : D.spent = false := by simpa using c0
    rw [show D.changeE = 4 from by simp [Dev.changeE, c1], show D.change k p = D.spend from by simp [Dev.change, c1]]
    rw [c1] at hspend
    clear hp c0 c1
    go_enter Tryz.func108, Tryz.ntmps108
    go_wp2_with fail
    refine hspend.out.mono ?_
    rintro e w1 ⟨rfl, hd1, hc1⟩
    have F := Lib.hid (And.intro hd1 hc1)
    clear hd1 hc1 hspend hd
    go_wp2
    go_ret
    exact ⟨rfl, F.out⟩
theorem ti_pp : TI Tryz.prog tPP (.pointer none) 1 8 := (by kernel_rfl : (Tryz.prog.info? tPP).map (fun i => (i.zero, i.size, i.bytes)) = some (some (.pointer none), 1, 8))
theorem pad_splice (b : List UInt8) (h : b.length ≤ 384) : splice (mk 384 (.int .u8 0)).toList 0 ((bys b).take 384) = bys (Dev.pad b) := by
  have hl : (bys b).take 384 = bys b := List.take_of_length_le (by rw [bys_length]; exact h)
  rw [hl]
  simp only [splice, mk_toList, List.take_zero, List.nil_append, Nat.zero_add, bys_length, List.drop_replicate, Dev.pad, bys_append]
  congr 1
  simp [bys]
theorem pad_length (b : List UInt8) (h : b.length ≤ 384) : (Dev.pad b).length = 384 := by simp [Dev.pad]; omega
theorem write_calls {N : Nat} {w : World} {h : DevH} {D : Dev} (hd : DevN N w h D) (k : Int) (A : Option Addr) (n c : Nat) (b : List UInt8) (hr : Rd w tU8 A n (bys b)) (hn : n ≤ 140737488351232) :
    Calls Tryz.prog 74 #[.pointer (some ⟨h.d, 0, none⟩), .int .i64 k, .slice A n c] w fun e w' => e = .returned (.int .i64 (D.writeE k b.length)) ∧ DevAt w' h (D.write k b) ∧ Chg h.foot w w' := by
  have hhas := Lib.hid (has_calls hd k)
  have hbl : b.length = n := by rw [← bys_length]; exact hr.1
  by_cases c0 : D.has k = true
  · rw [c0] at hhas
    by_cases c1 : n ≤ 384
    · rw [show D.writeE k b.length = D.changeE from by simp [Dev.writeE, c0, hbl, c1], show D.write k b = D.change k.toNat (.full (Dev.pad b)) from by simp [Dev.write, c0, hbl, c1]]
      have hk : 0 ≤ k ∧ k < D.n := by simpa [Dev.has] using c0
      obtain ⟨m, rfl⟩ := Int.eq_ofNat_of_zero_le hk.1
      rw [Int.toNat_natCast]
      have hkm : m < D.n := by omega
      have hmk : ∀ W : World, (Instr.makeSlice tBytes (.int .i64 384) (.int .i64 384)).run Tryz.prog W = .ok (.slice (some ⟨W.heap.size, 0, none⟩) 384 384) (W.alloc (.cells (mk 384 (.int .u8 0)) tU8)) := fun W => run_mk W Tryz.underlying40 ti_u8 rfl 384 (by omega) (by omega)
      have HR := Lib.hid (hr.alloc (.cells (mk 384 (.int .u8 0)) tU8))
      have HB := Lib.hid (Blk.new w tU8 (mk 384 (.int .u8 0)))
      have HL := Lib.hid hbl
      have HD := Lib.hid hd
      clear c0 hk hr hbl hd
      go_enter Tryz.func74, Tryz.ntmps74
      go_wp2_with fail
      refine hhas.out.mono ?_
      rintro e w1 ⟨rfl, rfl⟩
      go_wp2_with (with_reducible refine wpList_cp _ rfl (.tmp 18) (.tmp 19) _ _ rfl tU8 Tryz.underlying40 ti_u8 w.heap.size 0 384 384 A n c rfl rfl tU8 _ HB.out tU8 (bys b) HR.out (by rw [mk_size]; omega) bys_one ?_)
      intro w2 hb2 hc2
      have hb2' : Blk w2 w.heap.size tU8 (bys (Dev.pad b)).toArray := by
        rw [← pad_splice b (by rw [HL.out]; exact c1)]
        exact hb2
      have HB2 := Lib.hid hb2'
      have HC2 : Hid (Chg No w w2) := (Chg.alloc (Chg.refl No w) _).then hc2 (by intro i hi he; subst he; omega)
      have hs2 : w.heap.size < w2.heap.size := hb2'.lt
      clear hb2 hb2' hc2
      go_wp2_with fail
      have hc3 : Chg No w (w2.alloc (.cells #[.slice (some ⟨w.heap.size, 0, none⟩) 384 384, .bool false] tPage)) := HC2.out.alloc _
      refine (change_calls (HD.out.chgNo hc3) m hkm (.pointer (some ⟨w2.heap.size, 0, none⟩)) (.full (Dev.pad b)) ⟨w2.heap.size, w.heap.size, by simp, by simp; omega, rfl, Blk.new _ _ _, HB2.out.alloc _, pad_length b (by rw [HL.out]; exact c1)⟩).mono ?_
      rintro e w4 ⟨rfl, hd4, hc4⟩
      have F : Hid (DevAt w4 h (D.change m (.full (Dev.pad b))) ∧ Chg h.foot w w4) := ⟨hd4, (hc3.mono (fun _ _ h => h.elim)).trans hc4⟩
      clear hd4 hc4 hc3
      go_wp2
      go_ret
      exact ⟨rfl, F.out⟩
    · rw [show D.writeE k b.length = 1 from by simp [Dev.writeE, hbl, c1], show D.write k b = D from by simp [Dev.write, hbl, c1]]
      have HD := Lib.hid hd.at_
      clear c0 hd hr hbl
      go_enter Tryz.func74, Tryz.ntmps74
      go_wp2_with fail
      refine hhas.out.mono ?_
      rintro e w1 ⟨rfl, rfl⟩
      go_wp2
      go_ret
      exact ⟨rfl, HD.out, Chg.refl _ _⟩
  · have c1 : D.has k = false := by simpa using c0
    rw [show D.writeE k b.length = 1 from by simp [Dev.writeE, c1], show D.write k b = D from by simp [Dev.write, c1]]
    rw [c1] at hhas
    have HD := Lib.hid hd.at_
    clear c0 c1 hd hr hbl
    go_enter Tryz.func74, Tryz.ntmps74
    go_wp2_with fail
    refine hhas.out.mono ?_
    rintro e w1 ⟨rfl, rfl⟩
    go_wp2
    go_ret
    exact ⟨rfl, HD.out, Chg.refl _ _⟩
end Go.Proofs.YtplpbbdakihnfaaGreat
end

section
namespace Go.Proofs.YtplpbbdakihnfaaGreat
open Go.RowKit
structure Item where
  key : ByteArray
  val : ByteArray
  flags : UInt32
  exp : Int64
  ver : UInt64
  deriving DecidableEq
namespace Item
def zero : Item := { key := ByteArray.empty, val := ByteArray.empty, flags := 0, exp := 0, ver := 0 }
def good (x : Item) : Bool := decide (1 ≤ x.key.size) && decide (x.key.size ≤ 250) && decide (x.val.size ≤ 1024) && decide (0 < x.ver.toNat)
def size (x : Item) : Nat := 32 + x.key.size + x.val.size
end Item
def le : Nat → Nat → List UInt8
  | 0, _ => []
  | n + 1, v => UInt8.ofNat v :: le n (v / 256)
def num : List UInt8 → Nat
  | [] => 0
  | x :: r => x.toNat + 256 * num r
theorem le_length (n : Nat) : ∀ v, (le n v).length = n := by
  induction n with
  | zero => intro v; rfl
  | succ n ih => intro v; simp [le, ih]
theorem le_snoc (n : Nat) : ∀ v, le (n + 1) v = le n v ++ [UInt8.ofNat (v / 256 ^ n)] := by
  induction n with
  | zero => intro v; simp [le]
  | succ n ih =>
    intro v
    rw [le, ih (v / 256), le]
    simp only [List.cons_append, List.cons.injEq, true_and]
    rw [Nat.div_div_eq_div_mul, Nat.pow_succ, Nat.mul_comm]
theorem num_lt (l : List UInt8) : num l < 256 ^ l.length := by
  induction l with
  | nil => simp [num]
  | cons x r ih =>
    simp only [num, List.length_cons, Nat.pow_succ]
    have := x.toNat_lt
    omega
theorem num_le (n : Nat) : ∀ v, num (le n v) = v % 256 ^ n := by
  induction n with
  | zero => intro v; simp [le, num, Nat.mod_one]
  | succ n ih =>
    intro v
    simp only [le, num, ih]
    rw [Nat.pow_succ', Nat.mod_mul]
    simp
theorem num_le_of_lt {n v : Nat} (h : v < 256 ^ n) : num (le n v) = v := by rw [num_le, Nat.mod_eq_of_lt h]
def poly : Nat := 2197175160
def crcStep (z : Nat) : Nat := if z % 2 = 1 then (z / 2) ^^^ poly else z / 2
def crcRep : Nat → Nat → Nat
  | 0, z => z
  | k + 1, z => crcStep (crcRep k z)
def crcByte (z : Nat) (x : UInt8) : Nat := crcRep 8 (z ^^^ x.toNat)
def flip32 (z : Nat) : Nat := 4294967295 ^^^ z
def more (s : Nat) (b : List UInt8) : Nat := flip32 (b.foldl crcByte (flip32 s))
def crc (b : List UInt8) : Nat := more 0 b
theorem xor_lt32 {a b : Nat} (ha : a < 4294967296) (hb : b < 4294967296) : a ^^^ b < 4294967296 := Nat.xor_lt_two_pow (n := 32) ha hb
theorem crcStep_lt {z : Nat} (h : z < 4294967296) : crcStep z < 4294967296 := by
  unfold crcStep
  split
  · exact xor_lt32 (by omega) (by decide)
  · omega
theorem crcRep_lt (k : Nat) {z : Nat} (h : z < 4294967296) : crcRep k z < 4294967296 := by
  induction k with
  | zero => exact h
  | succ k ih => exact crcStep_lt ih
theorem crcByte_lt {z : Nat} (h : z < 4294967296) (x : UInt8) : crcByte z x < 4294967296 := crcRep_lt 8 (xor_lt32 h (by have := x.toNat_lt; omega))
theorem foldl_lt (b : List UInt8) : ∀ {z : Nat}, z < 4294967296 → b.foldl crcByte z < 4294967296 := by
  induction b with
  | nil => intro z h; exact h
  | cons x r ih => intro z h; exact ih (crcByte_lt h x)
theorem flip_lt {z : Nat} (h : z < 4294967296) : flip32 z < 4294967296 := xor_lt32 (by decide) h
theorem more_lt {s : Nat} (h : s < 4294967296) (b : List UInt8) : more s b < 4294967296 := flip_lt (foldl_lt b (flip_lt h))
theorem crc_lt (b : List UInt8) : crc b < 4294967296 := more_lt (by decide) b
theorem bits_xor32 (a b : Nat) (ha : a < 4294967296) (hb : b < 4294967296) : bits .xor .u32 (a : Int) (b : Int) = ((a ^^^ b : Nat) : Int) := by
  have ha' : a % 2 ^ IntKind.u32.bits = a := Nat.mod_eq_of_lt ha
  have hb' : b % 2 ^ IntKind.u32.bits = b := Nat.mod_eq_of_lt hb
  simp only [bits, BitVec.ofInt_natCast, BitVec.toNat_xor, BitVec.toNat_ofNat, ha', hb']
  exact wraps_u32 _ (by omega) (by have := xor_lt32 ha hb; show ((a ^^^ b : Nat) : Int) < _; omega)
theorem bits_and1 (a : Nat) (ha : a < 4294967296) : bits .and .u32 (a : Int) 1 = ((a % 2 : Nat) : Int) := by
  have h := bits_mask .u32 32 (by decide) (fun n h1 h2 => wraps_u32 n h1 h2) 1 (by decide) (a : Int) (by omega) (by omega)
  simpa using h
theorem bits_or_byte (q : Nat) (x : UInt8) (hq : q < 72057594037927936) : bits .or .u64 ((q : Int) * 256) (IntKind.u64.wrap (x.toNat : Int)) = ((x.toNat + 256 * q : Nat) : Int) := by
  have hx := x.toNat_lt
  rw [wraps_u64 _ (by omega) (by omega)]
  have h := bits_join .u64 64 (by decide) (fun n h1 h2 => wraps_u64 n h1 h2) 8 ((q : Int) * 256) (x.toNat : Int) (by omega) (by omega) (by omega) (by omega) (by omega) (by omega)
  rw [h]; omega
def hd24 (x : Item) : List UInt8 := UInt8.ofNat x.key.size :: (le 2 x.val.size ++ (82 :: (le 4 x.flags.toNat ++ (le 8 x.exp.toUInt64.toNat ++ le 8 x.ver.toNat))))
def body (x : Item) : List UInt8 := x.key.data.toList ++ x.val.data.toList
def record (x : Item) : List UInt8 := hd24 x ++ (le 4 (crc (hd24 x)) ++ (le 4 (crc (body x)) ++ body x))
theorem hd24_length (x : Item) : (hd24 x).length = 24 := by simp [hd24, le_length]
theorem body_length (x : Item) : (body x).length = x.key.size + x.val.size := by
  unfold body
  rw [List.length_append, Array.length_toList, Array.length_toList]
  rfl
theorem record_length (x : Item) : (record x).length = x.size := by
  simp only [record, List.length_append, hd24_length, le_length, body_length, Item.size]
  omega
inductive Tk where
  | none
  | bad
  | ok (x : Item) (n : Nat)
def Tk.err : Tk → Int
  | .none => 5
  | .bad => 3
  | .ok _ _ => 0
def Tk.item : Tk → Item
  | .ok x _ => x
  | _ => Item.zero
def Tk.len : Tk → Nat
  | .ok _ n => n
  | _ => 0
def cut (b : List UInt8) (i j : Nat) : List UInt8 := (b.drop i).take (j - i)
def keyLen (b : List UInt8) : Nat := (b.getD 0 0).toNat
def valLen (b : List UInt8) : Nat := num (cut b 1 3)
def endOf (b : List UInt8) : Nat := 32 + keyLen b + valLen b
def itemOf (b : List UInt8) : Item :=
  { key := ⟨(cut b 32 (32 + keyLen b)).toArray⟩, val := ⟨(cut b (32 + keyLen b) (endOf b)).toArray⟩, flags := UInt32.ofNat (num (cut b 4 8)), exp := (UInt64.ofNat (num (cut b 8 16))).toInt64, ver := UInt64.ofNat (num (cut b 16 24)) }
def headOk (b : List UInt8) : Bool := decide (32 ≤ b.length) && (b.getD 3 0 == 82) && decide (num (cut b 24 28) = crc (cut b 0 24))
def bodyOk (b : List UInt8) : Bool := decide (endOf b ≤ b.length) && decide (num (cut b 28 32) = crc (cut b 32 (endOf b)))
def take (b : List UInt8) : Tk :=
  if b.length = 0 ∨ b.getD 0 0 = 0 then .none
  else if headOk b && bodyOk b && (itemOf b).good then .ok (itemOf b) (endOf b)
  else .bad
end Go.Proofs.YtplpbbdakihnfaaGreat
end

section
namespace Go.Proofs.YtplpbbdakihnfaaGreat
open Go.RowKit
theorem num_drop (b : List UInt8) (m : Nat) (hm : m < b.length) : num (b.drop m) = (b[m]).toNat + 256 * num (b.drop (m + 1)) := by
  rw [List.drop_eq_getElem_cons hm]; rfl
theorem num_small (b : List UInt8) (m : Nat) (hb : b.length ≤ 8) (hm : m < b.length) : num (b.drop (m + 1)) < 72057594037927936 := by
  have h := num_lt (b.drop (m + 1))
  have hl : (b.drop (m + 1)).length ≤ 7 := by rw [List.length_drop]; omega
  have : 256 ^ (b.drop (m + 1)).length ≤ 256 ^ 7 := Nat.pow_le_pow_right (by decide) hl
  have e : (256 : Nat) ^ 7 = 72057594037927936 := by decide
  omega
theorem ret_int {k : IntKind} {a b : Int} (h : a = b) : Ending.returned (.int k a) = .returned (.int k b) := by rw [h]
theorem number_calls (A : Option Addr) (n c : Nat) (b : List UInt8) (w : World) (hr : Rd w tU8 A n (bys b)) (hn : n ≤ 8) :
    Calls Tryz.prog 127 #[.slice A n c] w fun e w' => e = .returned (.int .u64 (num b)) ∧ w = w' := by
  have hbl : b.length = n := by rw [← bys_length]; exact hr.1
  rcases Nat.eq_zero_or_pos n with rfl | hpos
  · have hb : b = [] := List.eq_nil_of_length_eq_zero hbl
    subst hb
    clear hr hbl
    go_enter Tryz.func127, Tryz.ntmps127
    go_wp2
    go_loopg [3, 4] 0 (fun k v i wr => w = wr ∧ i = .int .i64 (-1) ∧ v = .int .u64 0)
    case atStart => exact ⟨rfl, rfl, rfl⟩
    case round =>
      obtain ⟨rfl, rfl, rfl⟩ := hrel
      go_wp2
      go_ret
      exact ⟨rfl, rfl⟩
  · obtain ⟨g, off, rfl, hg, hx⟩ := hr.at_ hpos
    have HX := Lib.hid hx
    have HBL := Lib.hid hbl
    clear hr hx hbl hg
    go_enter Tryz.func127, Tryz.ntmps127
    go_wp2
    go_loopg [3, 4] n (fun k v i wr => ∃ j : Nat, k = j ∧ j ≤ n ∧ w = wr ∧ i = .int .i64 ((j : Int) - 1) ∧ v = .int .u64 ((num (b.drop j) : Nat) : Int))
    case atStart => exact ⟨n, rfl, Nat.le_refl _, rfl, by go_num, by rw [List.drop_of_length_le (by rw [HBL.out]; exact Nat.le_refl _)]; rfl⟩
    case round =>
      obtain ⟨j, rfl, hj, rfl, rfl, rfl⟩ := hrel
      rcases Nat.eq_zero_or_pos gk with rfl | h0
      · rw [show (((0 : Nat) : Int) - 1) = -1 from rfl]
        go_wp2
        go_ret
        exact ⟨by simp, rfl⟩
      · obtain ⟨m, rfl⟩ : ∃ m, gk = m + 1 := ⟨gk - 1, by omega⟩
        have e1 : ((m + 1 : Nat) : Int) - 1 = (m : Int) := by omega
        rw [e1]
        have hlt : (m : Int) < (n : Int) := by omega
        have hml : m < b.length := by rw [HBL.out]; omega
        obtain ⟨x, hxe⟩ : ∃ x, x = b[m] := ⟨_, rfl⟩
        have hc : w.cell? ⟨g, off + m, none⟩ = some (.int .u8 x.toNat) := HX.out m _ (by simp [bys, hxe, List.getElem?_eq_getElem hml])
        obtain ⟨q, hq⟩ : ∃ q, q = num (b.drop (m + 1)) := ⟨_, rfl⟩
        rw [← hq]
        have hqs : q < 72057594037927936 := by rw [hq]; exact num_small b m (by rw [HBL.out]; exact hn) hml
        have HV : Hid (num (b.drop m) = x.toNat + 256 * q) := by rw [hq, hxe]; exact num_drop b m hml
        have HO := Lib.hid (bits_or_byte q x hqs)
        clear hq hxe hml
        go_wp2
        go_roundg m
        case measure => omega
        case rel => exact ⟨m, rfl, by omega, rfl, rfl, by rw [HO.out, HV.out]⟩
theorem more_calls (s : Nat) (A : Option Addr) (n c : Nat) (b : List UInt8) (w : World) (hr : Rd w tU8 A n (bys b)) (hs : s < 4294967296) (hn : n ≤ 140737488351232) :
    Calls Tryz.prog 126 #[.int .u32 s, .slice A n c] w fun e w' => e = .returned (.int .u32 (more s b)) ∧ w = w' := by
  have hbl : b.length = n := by rw [← bys_length]; exact hr.1
  have HR := Lib.hid hr
  have HBL := Lib.hid hbl
  have HF := Lib.hid (bits_xor32 4294967295 s (by decide) hs)
  have HM := Lib.hid (show ((IntKind.u32.max : Int)) = ((4294967295 : Nat) : Int) from by decide)
  clear hr hbl
  go_enter Tryz.func126, Tryz.ntmps126
  go_wp2
  go_loopg [5, 8, 13, 21] n (fun k s5 s8 i s21 wr => ∃ q : Nat, k = n - q ∧ q ≤ n ∧ w = wr ∧ i = .int .i64 q ∧ s5 = .int .u32 (((b.take q).foldl crcByte (flip32 s) : Nat) : Int))
  case atStart => exact ⟨0, rfl, Nat.zero_le _, rfl, rfl, by rw [HM.out, HF.out]; rfl⟩
  case round =>
    obtain ⟨j, rfl, hj, rfl, rfl, rfl⟩ := hrel
    by_cases h0 : j < n
    · have hjl : j < b.length := by rw [HBL.out]; exact h0
      obtain ⟨g, off, hA, hg, hx⟩ := HR.out.at_ h0
      obtain ⟨x, hxe⟩ : ∃ x, x = b[j] := ⟨_, rfl⟩
      have hc : w.cell? ⟨g, off + j, none⟩ = some (.int .u8 x.toNat) := hx j _ (by simp [bys, hxe, List.getElem?_eq_getElem hjl])
      subst hA
      obtain ⟨z, hz⟩ : ∃ z, z = (b.take j).foldl crcByte (flip32 s) := ⟨_, rfl⟩
      rw [← hz]
      have hzl : z < 4294967296 := by rw [hz]; exact foldl_lt _ (flip_lt hs)
      have HV : Hid ((b.take (j + 1)).foldl crcByte (flip32 s) = crcRep 8 (z ^^^ x.toNat)) := by
        show _ = _
        rw [List.take_succ_eq_append_getElem hjl, List.foldl_append, hz, hxe]; rfl
      have hxl := x.toNat_lt
      have HX := Lib.hid (bits_xor32 z x.toNat hzl (by omega))
      have HZ0 := Lib.hid (xor_lt32 hzl (show x.toNat < 4294967296 by omega))
      clear hz hxe hjl hx hg
      go_wp2
      go_loopg [5, 8, 21] 8 (fun k s5 s8 i wr => ∃ q : Nat, k = 8 - q ∧ q ≤ 8 ∧ w = wr ∧ i = .int .i64 q ∧ s5 = .int .u32 ((crcRep q (z ^^^ x.toNat) : Nat) : Int))
      case atStart => exact ⟨0, rfl, by omega, rfl, rfl, by rw [HX.out]; rfl⟩
      case round =>
        obtain ⟨i, rfl, hi, rfl, rfl, rfl⟩ := hrel
        by_cases h8 : i < 8
        · obtain ⟨y, hy⟩ : ∃ y, y = crcRep i (z ^^^ x.toNat) := ⟨_, rfl⟩
          rw [← hy]
          have hyl : y < 4294967296 := by rw [hy]; exact crcRep_lt i HZ0.out
          have HY : Hid (crcRep (i + 1) (z ^^^ x.toNat) = crcStep y) := by rw [hy]; rfl
          have hand := bits_and1 y hyl
          clear hy
          by_cases hodd : y % 2 = 1
          · rw [hodd] at hand
            have HP := Lib.hid (bits_xor32 (y / 2) poly (by omega) (by decide))
            have HO := Lib.hid hodd
            clear hodd
            go_wp2
            go_roundg (8 - (i + 1))
            case measure => omega
            case rel => exact ⟨i + 1, rfl, by omega, rfl, by go_num, by rw [HY.out, crcStep, if_pos HO.out]; exact congrArg _ HP.out⟩
          · have h20 : y % 2 = 0 := by omega
            rw [h20] at hand
            have HO := Lib.hid hodd
            clear hodd h20
            go_wp2
            go_roundg (8 - (i + 1))
            case measure => omega
            case rel => exact ⟨i + 1, rfl, by omega, rfl, by go_num, by rw [HY.out, crcStep, if_neg HO.out]; rfl⟩
        · have e8 : i = 8 := by omega
          subst e8
          have HX2 := Lib.hid hi
          go_wp2
          go_roundg (n - (j + 1))
          case measure => omega
          case rel => exact ⟨j + 1, rfl, by omega, rfl, by go_num, by rw [HV.out]⟩
    · have en : j = n := by omega
      subst en
      have hz := foldl_lt b (flip_lt hs)
      have HF2 := Lib.hid (bits_xor32 4294967295 _ (by decide) hz)
      have HT : Hid (b.take j = b) := List.take_of_length_le (by rw [HBL.out]; exact Nat.le_refl _)
      rw [HT.out]
      clear hz
      go_wp2
      go_ret
      exact ⟨ret_int (by rw [HM.out, HF2.out]; rfl), rfl⟩
theorem crc_calls (A : Option Addr) (n c : Nat) (b : List UInt8) (w : World) (hr : Rd w tU8 A n (bys b)) (hn : n ≤ 140737488351232) :
    Calls Tryz.prog 115 #[.slice A n c] w fun e w' => e = .returned (.int .u32 (crc b)) ∧ w = w' := by
  have H := Lib.hid (more_calls 0 A n c b w hr (by decide) hn)
  clear hr
  go_enter Tryz.func115, Tryz.ntmps115
  go_wp2_with fail
  refine H.out.mono ?_
  rintro e w1 ⟨rfl, rfl⟩
  go_wp2
  go_ret
  exact ⟨rfl, rfl⟩
end Go.Proofs.YtplpbbdakihnfaaGreat
end

section
namespace Go.Proofs.YtplpbbdakihnfaaGreat
open Go.RowKit
def rowOf (v : Value) : Nat → Prop := fun k => v.ownBlock = some k
theorem le_byte (k i : Nat) : ((UInt8.ofNat (k / 256 ^ i)).toNat : Int) = (k : Int) / 2 ^ (8 * i) % 256 := by
  have e : (256 : Nat) ^ i = 2 ^ (8 * i) := by rw [Nat.pow_mul]
  rw [e]
  simp
theorem rd_one (w : World) (t : TypeId) (u : Value) : Rd (w.alloc (.cells #[u] t)) t (some ⟨w.heap.size, 0, none⟩) (1 * 1) [u] :=
  Rd.ofBlk (k := 1) (Blk.new w t #[u]) (by simp)
theorem add_calls (v : Value) (base m : Nat) (xs : List Value) (k n : Nat) (w : World) (hown : w.ownsRow base tU8 1 v m xs) (hb : base ≤ w.heap.size) (hk : k < 18446744073709551616) (hn : n ≤ 8) (hm : m ≤ 140737488351232) :
    Calls Tryz.prog 122 #[v, .int .u64 k, .int .i64 n] w fun e w' => ∃ v', e = .returned v' ∧ w'.ownsRow base tU8 1 v' (m + n) (xs ++ bys (le n k)) ∧ Chg (rowOf v) w w' ∧ (v'.ownBlock = v.ownBlock ∨ ∀ j, v'.ownBlock = some j → w.heap.size ≤ j) := by
  have HO := Lib.hid hown
  clear hown
  go_enter Tryz.func122, Tryz.ntmps122
  go_wp2
  go_loopg [0, 9] n (fun g v0 i wr => ∃ q : Nat, g = n - q ∧ q ≤ n ∧ i = .int .i64 q ∧ Hid (wr.ownsRow base tU8 1 v0 (m + q) (xs ++ bys (le q k)) ∧ Chg (rowOf v) w wr ∧ (v0.ownBlock = v.ownBlock ∨ ∀ j, v0.ownBlock = some j → w.heap.size ≤ j)))
  case atStart => exact ⟨0, rfl, Nat.zero_le _, rfl, ⟨by simpa [le, bys] using HO.out, Chg.refl _ _, .inl rfl⟩⟩
  case round =>
    obtain ⟨q, rfl, hq, rfl, HQ⟩ := hrel
    by_cases h0 : q < n
    · have HW : Hid (base ≤ wr.heap.size) := Nat.le_trans hb HQ.out.2.1.size
      rename_i v0
      go_wp2_with (first
        | (at_builtin; refine wpList_app _ rfl (.tmp 12) (.tmp 18) tBytes rfl tU8 Tryz.underlying40 ti_u8 rfl (by omega) base _ (m + q) (xs ++ bys (le q k)) rfl (HQ.out.1.alloc _) tU8 _ 1 1 _ rfl (rd_one _ _ _) (by simp [Value.oneCell']) (by simp only [maxLen]; omega) (by omega) (by have := HW.out; simp; omega) ?_; intro v1 w1 ho1 hg1 hb1; have HO1 := Lib.hid ho1; have HG1 := Lib.hid hg1; have HB1 := Lib.hid hb1; clear ho1 hg1 hb1))
      go_roundg (n - (q + 1))
      case measure => omega
      case rel =>
        refine ⟨q + 1, rfl, by omega, by go_num, ?_, ?_, ?_⟩
        · have h := HO1.out
          rw [List.append_assoc] at h
          have e : bys (le (q + 1) k) = bys (le q k) ++ [.int .u8 ((k : Int) / 2 ^ (8 * q) % 256)] := by
            rw [le_snoc, bys_append]
            simp only [bys, List.map_cons, List.map_nil, le_byte]
          rw [e]
          exact h
        · refine ((HQ.out.2.1.alloc _).grown HG1.out ?_)
          intro j hj
          rcases HQ.out.2.2 with h | h
          · left; unfold rowOf; rw [← h]; exact hj
          · right; exact h j hj
        · rcases HB1.out with h | h
          · rw [h]; exact HQ.out.2.2
          · right
            intro j hj
            rw [h] at hj
            have := HQ.out.2.1.size
            simp at hj
            omega
    · have e : q = n := by omega
      subst e
      go_wp2
      go_ret
      exact ⟨_, rfl, HQ.out⟩
theorem Rd.lo {w w' : World} {t : TypeId} {g off k B : Nat} {xs : List Value} (h : Rd w t (some ⟨g, off, none⟩) k xs) (hc : Chg (fun i => B ≤ i) w w') (hg : g < B) : Rd w' t (some ⟨g, off, none⟩) k xs :=
  ⟨h.1, fun hk => by
    obtain ⟨g', off', cur, fz, e, hg', hx⟩ := h.2 hk
    simp only [Option.some.injEq, Addr.mk.injEq, and_true] at e
    obtain ⟨rfl, rfl⟩ := e
    exact ⟨g, off, cur, fz, rfl, hc.at_ hg' (by omega), hx⟩⟩
theorem add_callsI (v : Value) (base m : Nat) (xs : List Value) (k n : Int) (w : World) (hown : w.ownsRow base tU8 1 v m xs) (hb : base ≤ w.heap.size) (hk0 : 0 ≤ k) (hk : k < 18446744073709551616) (hn0 : 0 ≤ n) (hn : n ≤ 8) (hm : m ≤ 140737488351232) :
    Calls Tryz.prog 122 #[v, .int .u64 k, .int .i64 n] w fun e w' => ∃ v', e = .returned v' ∧ w'.ownsRow base tU8 1 v' (m + n.toNat) (xs ++ bys (le n.toNat k.toNat)) ∧ Chg (fun i => base ≤ i) w w' := by
  obtain ⟨k, rfl⟩ := Int.eq_ofNat_of_zero_le hk0
  obtain ⟨n, rfl⟩ := Int.eq_ofNat_of_zero_le hn0
  refine (add_calls v base m xs k n w hown hb (by omega) (by omega) hm).mono ?_
  rintro e w' ⟨v', rfl, h1, h2, _⟩
  exact ⟨v', rfl, by simpa using h1, h2.mono (fun i _ hi => own_new hown i hi)⟩
theorem good_calls (x : Item) (w : World) :
    Calls Tryz.prog 40 #[.agg #[.string x.key, .string x.val, .int .u32 x.flags.toNat, .int .i64 x.exp.toInt, .int .u64 x.ver.toNat]] w fun e w' => e = .returned (.bool x.good) ∧ Chg No w w' := by
  by_cases c1 : 1 ≤ x.key.size
  · by_cases c2 : x.key.size ≤ 250
    · by_cases c3 : x.val.size ≤ 1024
      · rw [show x.good = decide (0 < x.ver.toNat) from by simp [Item.good, c1, c2, c3]]
        go_enter Tryz.func40, Tryz.ntmps40
        go_wp2
        go_ret
        exact ⟨by simp, by (repeat (first | (with_reducible exact Chg.refl _ _) | (with_reducible assumption) | (with_reducible refine Chg.drewN ?_ _) | (with_reducible refine Chg.drew ?_) | (with_reducible refine Chg.alloc ?_ _) | (with_reducible refine Chg.setCell ?_ (by first | (left; simp [DevH.foot]; done) | (right; simp; done) | (right; simp; omega)) _)))⟩
      · rw [show x.good = false from by simp [Item.good, c3]]
        go_enter Tryz.func40, Tryz.ntmps40
        go_wp2
        go_ret
        exact ⟨rfl, by (repeat (first | (with_reducible exact Chg.refl _ _) | (with_reducible assumption) | (with_reducible refine Chg.drewN ?_ _) | (with_reducible refine Chg.drew ?_) | (with_reducible refine Chg.alloc ?_ _) | (with_reducible refine Chg.setCell ?_ (by first | (left; simp [DevH.foot]; done) | (right; simp; done) | (right; simp; omega)) _)))⟩
    · rw [show x.good = false from by simp [Item.good, c2]]
      go_enter Tryz.func40, Tryz.ntmps40
      go_wp2
      go_ret
      exact ⟨rfl, by (repeat (first | (with_reducible exact Chg.refl _ _) | (with_reducible assumption) | (with_reducible refine Chg.drewN ?_ _) | (with_reducible refine Chg.drew ?_) | (with_reducible refine Chg.alloc ?_ _) | (with_reducible refine Chg.setCell ?_ (by first | (left; simp [DevH.foot]; done) | (right; simp; done) | (right; simp; omega)) _)))⟩
  · rw [show x.good = false from by simp only [Item.good, c1]; simp]
    go_enter Tryz.func40, Tryz.ntmps40
    go_wp2
    go_ret
    exact ⟨rfl, by (repeat (first | (with_reducible exact Chg.refl _ _) | (with_reducible assumption) | (with_reducible refine Chg.drewN ?_ _) | (with_reducible refine Chg.drew ?_) | (with_reducible refine Chg.alloc ?_ _) | (with_reducible refine Chg.setCell ?_ (by first | (left; simp [DevH.foot]; done) | (right; simp; done) | (right; simp; omega)) _)))⟩
theorem size_calls (x : Item) (w : World) (h1 : x.key.size ≤ 140737488351232) (h2 : x.val.size ≤ 140737488351232) :
    Calls Tryz.prog 41 #[.agg #[.string x.key, .string x.val, .int .u32 x.flags.toNat, .int .i64 x.exp.toInt, .int .u64 x.ver.toNat]] w fun e w' => e = .returned (.int .i64 x.size) ∧ Chg No w w' := by
  go_enter Tryz.func41, Tryz.ntmps41
  go_wp2
  go_ret
  exact ⟨ret_int (by simp [Item.size]), by (repeat (first | (with_reducible exact Chg.refl _ _) | (with_reducible assumption) | (with_reducible refine Chg.drewN ?_ _) | (with_reducible refine Chg.drew ?_) | (with_reducible refine Chg.alloc ?_ _) | (with_reducible refine Chg.setCell ?_ (by first | (left; simp [DevH.foot]; done) | (right; simp; done) | (right; simp; omega)) _)))⟩
end Go.Proofs.YtplpbbdakihnfaaGreat
end

section
namespace Go.Proofs.YtplpbbdakihnfaaGreat
open Go.RowKit
section
variable {P : Program} (w : World)
theorem run_b2s {src dst e : TypeId} (A : Option Addr) (n c : Nat) (b : List UInt8) (hs : P.underlying src = some (.slice e)) (he : P.underlying e = some (.int .u8)) (hd : P.underlying dst = some .string) (te : TypeId) (hr : Rd w te A n (bys b)) :
    (convert src dst (.slice A n c)).run P w = .ok (.string ⟨b.toArray⟩) w := by
  have hl : b.length = n := by rw [← bys_length]; exact hr.1
  rcases A with _ | ad
  · have h0 : n = 0 := by
      rcases Nat.eq_zero_or_pos n with h0 | h0
      · exact h0
      · obtain ⟨g, off, cur, fz, h, _⟩ := hr.2 h0
        cases h
    subst h0
    have hb : b = [] := List.eq_nil_of_length_eq_zero hl
    subst hb
    rw [run_convert_bytes_string w src dst e none 0 c hs he hd]
    simp [Conv.bytesToString, Sem.run_pure]
    rfl
  · subst hl
    refine run_convert_bytes_back w src dst e ad c b hs he hd ?_
    intro j hj
    obtain ⟨g, off, cur, fz, h, hg, hx⟩ := hr.2 (by omega)
    injection h with h
    subst h
    have hadd : (⟨g, off, none⟩ : Addr).add j = ⟨g, off + j, none⟩ := by unfold Addr.add; split <;> simp_all
    rw [hadd, cell_of_row w g _ cur te fz hg]
    exact hx j _ (by simp [bys, List.getElem?_eq_getElem hj])
theorem run_s2b {src dst e : TypeId} (s : ByteArray) (hs : P.underlying src = some .string) (hd : P.underlying dst = some (.slice e)) (he : P.underlying e = some (.int .u8)) :
    ∃ cap w', (convert src dst (.string s)).run P w = .ok (.slice (some ⟨w.heap.size, 0, none⟩) s.size cap) w' ∧ s.size ≤ cap ∧ Rd w' e (some ⟨w.heap.size, 0, none⟩) s.size (bys s.data.toList) ∧ Chg No w w' ∧ w'.heap.size = w.heap.size + 1 := by
  refine ⟨_, _, run_bytes_of_string w src dst e s hs hd he, grownCap_ge _ _ _ _, ?_, ((Chg.refl No w).drew).alloc _, by simp⟩
  refine ⟨by rw [bys_length]; exact Array.length_toList, fun h0 => ⟨w.heap.size, 0, _, _, rfl, heap_alloc_new w.drew _, ?_⟩⟩
  intro j u hu
  obtain ⟨x, hx, rfl⟩ := bys_get hu
  have hj : j < s.data.size := by
    have := (List.getElem?_eq_some_iff.1 hx).1
    simpa using this
  simp only [bytesRow, Nat.zero_add]
  rw [Array.getElem?_append_left (by rw [Array.size_map]; exact hj), Array.getElem?_map]
  rw [Array.getElem?_toList] at hx
  rw [hx]
  rfl
theorem wpList_s2b {ops : Array Oper} {rest : List Oper} {o : Oper} {a : Act} {Q : Exit → Act → World → Prop} (hgd : o.guard = none) (src dst : TypeId) (x : Operand) (ho : o.op = .convert src dst x)
    {e : TypeId} (hs : P.underlying src = some .string) (hd : P.underlying dst = some (.slice e)) (he : P.underlying e = some (.int .u8)) (s : ByteArray) (hx : a.eval x = .string s)
    (h : ∀ cap w', s.size ≤ cap → Rd w' e (some ⟨w.heap.size, 0, none⟩) s.size (bys s.data.toList) → Chg No w w' → w'.heap.size = w.heap.size + 1 → wpList P ops Q rest (a.put o.dst (.slice (some ⟨w.heap.size, 0, none⟩) s.size cap)) w') :
    wpList P ops Q (o :: rest) a w := by
  refine wpList_plain hgd fun K hK => ?_
  obtain ⟨cap, w', hrun, h1, h2, h3, h4⟩ := run_s2b (P := P) w s hs hd he
  unfold Oper.wp execOp
  simp only [ho, hx, Sem.run_bind, hrun, Result.andThen_ok, Sem.run_pure]
  exact hK _ _ (h cap w' h1 h2 h3 h4)
end
theorem if_add_zero (q : Prop) [Decidable q] (A : Option Addr) (size : Nat) (k : Nat) (h0 : k = 0) : (if q then A else A.map (·.add (k * size))) = A := by
  subst h0
  split
  · rfl
  · cases A <;> simp [Addr.add]
theorem sub_slice {P : Program} {T e : TypeId} {z : Value} {size bytes : Nat} (hT : P.underlying T = some (.slice e)) (hi : TI P e z size bytes) (A : Option Addr) (n c : Nat) (l h : Int) (h0 : 0 ≤ l) (h1 : l ≤ h) (h2 : h ≤ c) :
    ∃ A', (∀ W : World, (Instr.slice T (.slice A n c) (some (.int .i64 l)) (some (.int .i64 h)) none).run P W = .ok (.slice A' (h.toNat - l.toNat) (c - l.toNat)) W) ∧
      ∀ (W : World) (t : TypeId) (xs : List Value), Rd W t A (n * size) xs → h.toNat ≤ n → Rd W t A' ((h.toNat - l.toNat) * size) ((xs.drop (l.toNat * size)).take ((h.toNat - l.toNat) * size)) := by
  obtain ⟨i, hi', hz, hs, hby⟩ := info_parts hi
  refine ⟨if c = l.toNat then A else A.map (·.add (l.toNat * size)), fun W => ?_, fun W t xs hr hn => ?_⟩
  · have hsz : (sizeOf e).run P W = .ok size W := by simp [sizeOf, typeInfo, hi', hs]
    have eh : (h.toNat : Int) = h := Int.toNat_of_nonneg (by omega)
    simp only [Instr.slice, Sem.run_bind, run_underlying hT, Result.andThen, Instr.sliceBounds, Sem.run_pure]
    rw [run_sliceBound _ _ _ _ _ (by omega) (by omega)]
    simp only [Option.isSome_none, Bool.false_eq_true, if_false]
    rw [run_sliceBound _ _ _ _ _ (by omega) (by omega)]
    simp only [hsz]
  · have hd := hr.drop (m := l.toNat * size) (Nat.mul_le_mul_right _ (by omega)) (c = l.toNat ∧ False) (fun hh => hh.2.elim)
    simp only [and_false, if_false] at hd
    have ht := hd.take (m := (h.toNat - l.toNat) * size) (by rw [← Nat.sub_mul]; exact Nat.mul_le_mul_right _ (by omega))
    by_cases hc : c = l.toNat
    · have hz0 : h.toNat - l.toNat = 0 := by omega
      rw [if_pos hc, hz0, Nat.zero_mul, List.take_zero]
      exact Rd.nil _ _ _
    · rw [if_neg hc]
      exact ht
theorem sub_slice_l {P : Program} {T e : TypeId} {z : Value} {size bytes : Nat} (hT : P.underlying T = some (.slice e)) (hi : TI P e z size bytes) (A : Option Addr) (n c : Nat) (l : Int) (h0 : 0 ≤ l) (h1 : l ≤ n) (hnc : n ≤ c) :
    ∃ A', (∀ W : World, (Instr.slice T (.slice A n c) (some (.int .i64 l)) none none).run P W = .ok (.slice A' (n - l.toNat) (c - l.toNat)) W) ∧
      ∀ (W : World) (t : TypeId) (xs : List Value), Rd W t A (n * size) xs → Rd W t A' ((n - l.toNat) * size) (xs.drop (l.toNat * size)) := by
  obtain ⟨i, hi', hz, hs, hby⟩ := info_parts hi
  refine ⟨if c = l.toNat then A else A.map (·.add (l.toNat * size)), fun W => ?_, fun W t xs hr => ?_⟩
  · have hsz : (sizeOf e).run P W = .ok size W := by simp [sizeOf, typeInfo, hi', hs]
    simp only [Instr.slice, Sem.run_bind, run_underlying hT, Result.andThen, Instr.sliceBounds, Sem.run_pure]
    rw [run_sliceBound _ _ _ _ _ (by omega) (by omega)]
    simp only [hsz]
  · have hd := hr.drop (m := l.toNat * size) (Nat.mul_le_mul_right _ (by omega)) (c = l.toNat ∧ False) (fun hh => hh.2.elim)
    simp only [and_false, if_false] at hd
    by_cases hc : c = l.toNat
    · have hz0 : n - l.toNat = 0 := by omega
      have hnl : n = l.toNat := by omega
      rw [if_pos hc, hz0, Nat.zero_mul, List.drop_of_length_le (by rw [hr.1, ← hnl]; exact Nat.le_refl _)]
      exact Rd.nil _ _ _
    · rw [if_neg hc, Nat.sub_mul]
      exact hd
end Go.Proofs.YtplpbbdakihnfaaGreat
end

section
namespace Go.Proofs.YtplpbbdakihnfaaGreat
open Go.RowKit
theorem put_bad (x : Item) (w : World) (hg : x.good = false) :
    Calls Tryz.prog 107 #[.agg #[.string x.key, .string x.val, .int .u32 x.flags.toNat, .int .i64 x.exp.toInt, .int .u64 x.ver.toNat]] w fun e w' => e = .returned (.tuple #[.slice none 0 0, .int .i64 1]) ∧ Chg No w w' := by
  have H := fun W => Lib.hid (good_calls x W)
  rw [hg] at H
  clear hg
  go_enter Tryz.func107, Tryz.ntmps107
  go_wp2_with fail
  refine (H _).out.mono ?_
  rintro e w1 ⟨rfl, hc1⟩
  have F : Hid (Chg No w w1) := (Chg.alloc (Chg.refl _ _) _).trans hc1
  clear hc1 H
  go_wp2
  go_ret2
  exact ⟨rfl, F.out⟩
theorem exp_wrap (e : Int64) : IntKind.u64.wrap e.toInt = e.toUInt64.toNat := by
  rw [IntKind.wrap_u64]
  have h := e.toInt_lt
  have h2 := e.le_toInt
  have : (e.toUInt64.toNat : Int) = e.toInt % 18446744073709551616 := by
    have h3 : e.toUInt64.toNat = e.toBitVec.toNat := rfl
    have h4 : e.toInt = e.toBitVec.toInt := rfl
    rw [h3, h4, BitVec.toInt_eq_toNat_bmod]
    have := e.toBitVec.isLt
    rw [show (18446744073709551616 : Int) = ((2 ^ 64 : Nat) : Int) from rfl, Int.bmod_emod, Int.emod_eq_of_lt (by omega) (by omega)]
  rw [this]
theorem own_eq {w : World} {base e size n n' : Nat} {v : Value} {xs xs' : List Value} (h : w.ownsRow base e size v n xs) (hn : n = n') (hx : xs = xs') : w.ownsRow base e size v n' xs' := by
  subst hn; subst hx; exact h
theorem hd24_bys (x : Item) (hk : x.key.size ≤ 250) :
    ([.int .u8 (x.key.size : Int)] ++ bys (le (Int.toNat 2) (x.val.size : Int).toNat) ++ [.int .u8 82] ++ bys (le (Int.toNat 4) (x.flags.toNat : Int).toNat) ++ bys (le (Int.toNat 8) (x.exp.toUInt64.toNat : Int).toNat) ++ bys (le (Int.toNat 8) (x.ver.toNat : Int).toNat)) = bys (hd24 x) := by
  have e : ((UInt8.ofNat x.key.size).toNat : Int) = (x.key.size : Int) := by simp; omega
  simp only [hd24, bys, List.map_cons, List.map_append, e, Int.toNat_natCast, List.append_assoc, List.cons_append, List.nil_append]
  rfl
set_option maxRecDepth 100000 in
set_option maxHeartbeats 1000000 in
theorem put_good (x : Item) (w : World) (hg : x.good = true) :
    Calls Tryz.prog 107 #[.agg #[.string x.key, .string x.val, .int .u32 x.flags.toNat, .int .i64 x.exp.toInt, .int .u64 x.ver.toNat]] w fun e w' => ∃ v, e = .returned (.tuple #[v, .int .i64 0]) ∧ w'.ownsRow w.heap.size tU8 1 v (record x).length (bys (record x)) ∧ Chg No w w' := by
  have H := fun W => Lib.hid (good_calls x W)
  rw [hg] at H
  obtain ⟨hk1, hk2, hv2⟩ : 1 ≤ x.key.size ∧ x.key.size ≤ 250 ∧ x.val.size ≤ 1024 := by
    simp [Item.good] at hg
    exact ⟨hg.1.1.1, hg.1.1.2, hg.1.2⟩
  clear hg
  go_enter Tryz.func107, Tryz.ntmps107
  go_wp2_with fail
  refine (H _).out.mono ?_
  rintro e w1 ⟨rfl, hc1⟩
  have hX : Blk w1 w.heap.size 39 #[.string x.key, .string x.val, .int .u32 x.flags.toNat, .int .i64 x.exp.toInt, .int .u64 x.ver.toNat] := (Blk.new w _ _).chg hc1 (fun h => h)
  have HX := Lib.hid hX
  have HC1 : Hid (Chg No w w1) := (Chg.alloc (Chg.refl _ _) _).trans hc1
  have x0 := hX.cell 0
  have x1 := hX.cell 1
  simp at x0 x1
  clear hc1 H hX
  go_wp2_with (first | (with_reducible refine wpList_s2b _ rfl 9 tBytes (.tmp 13) rfl Tryz.underlying9 Tryz.underlying40 Tryz.underlying5 _ rfl ?_; intro cap w2 hcap hrd hc2 hs2; have HRD := Lib.hid hrd; have HC2 := Lib.hid hc2; have HS2 := Lib.hid hs2; clear hcap hrd hc2 hs2; have X2 := Lib.hid (HX.out.chg HC2.out (fun h => h)); have x0 := X2.out.cell 0; have x1 := X2.out.cell 1; simp at x0 x1; have hlt2 : w.heap.size < w2.heap.size := X2.out.lt))
  have HL1 : Hid (w1.heap.size < w2.heap.size) := by show _ < _; rw [HS2.out]; omega
  have hk64 : (x.val.size : Int) < 18446744073709551616 := by omega
  refine (add_callsI _ w2.heap.size 1 _ _ 2 _ (own_one w2 _ _) (by simp) (by omega) hk64 (by omega) (by omega) (by omega)).mono ?_
  rintro e w3 ⟨v3, rfl, ho3, hc3⟩
  have HO3 := Lib.hid ho3
  have HC3 : Hid (Chg (fun i => w2.heap.size ≤ i) w2 w3) := ((Chg.refl _ _).alloc _).trans hc3
  clear ho3 hc3 x0 x1
  have X3 := Lib.hid (X2.out.chg HC3.out (by omega))
  have x2 := X3.out.cell 2
  simp at x2
  go_wp2_with fail
  have hw3 : w2.heap.size ≤ w3.heap.size := HC3.out.size
  have hk32 : (x.flags.toNat : Int) < 4294967296 := by have := x.flags.toNat_lt; omega
  have hfw : IntKind.u64.wrap (x.flags.toNat : Int) = x.flags.toNat := wraps_u64 _ (by omega) (by omega)
  go_region_held3 (fun w' => w'.cell? ⟨w.heap.size, 2, none⟩ = some (.int .u32 x.flags.toNat)) (first | go_keep)
    (first
      | (refine step_app _ (by rfl) (.tmp 25) (.tmp 26) tBytes (by rfl) tU8 Tryz.underlying40 ti_u8 rfl (by omega) w2.heap.size v3 _ _ (by rfl) (HO3.out.alloc _) tU8 _ 1 1 _ (by rfl) (rd_one _ _ _) (by simp [Value.oneCell']) (by simp only [maxLen]; omega) (by omega) (by simp; omega) ?_
         intro v4 w4 ho4 hg4 hb4
         have HO4 := Lib.hid ho4
         have HC4 : Hid (Chg (fun i => w2.heap.size ≤ i) w3 w4) := (((Chg.refl _ _).alloc _).drew).grown hg4 (fun k hk => .inl (own_new HO3.out k hk))
         clear ho4 hg4 hb4
         have X4 := Lib.hid (X3.out.chg HC4.out (by omega))
         have x24 := X4.out.cell 2
         simp at x24
         have hw4 : w2.heap.size ≤ w4.heap.size := by have := HC4.out.size; omega)
      | (go_at_call_of 122 v4
         refine (add_callsI v4 w2.heap.size _ _ _ 4 w4 HO4.out hw4 (by omega) (by omega) (by omega) (by omega) (by simp)).mono ?_
         rintro e w5 ⟨v5, rfl, ho5, hc5⟩
         have HO5 := Lib.hid ho5
         have HC5 := Lib.hid hc5
         clear ho5 hc5
         have X5 := Lib.hid (X4.out.chg HC5.out (by omega))
         have x25 := X5.out.cell 2
         simp at x25
         have hw5 : w2.heap.size ≤ w5.heap.size := by have := HC5.out.size; omega))
  clear x2 x24 x25 hfw
  have x3 := X5.out.cell 3
  have x4 := X5.out.cell 4
  simp at x3 x4
  have hk64 : (x.ver.toNat : Int) < 18446744073709551616 := by have := x.ver.toNat_lt; omega
  have hew : IntKind.u64.wrap x.exp.toInt = x.exp.toUInt64.toNat := exp_wrap x.exp
  have hel : (x.exp.toUInt64.toNat : Int) < 18446744073709551616 := by have := x.exp.toUInt64.toNat_lt; omega
  go_wp2_with fail
  go_region_held3 (fun w' => w'.cell? ⟨w.heap.size, 3, none⟩ = some (.int .i64 x.exp.toInt) ∧ w'.cell? ⟨w.heap.size, 4, none⟩ = some (.int .u64 x.ver.toNat)) (first | go_keep)
    (first
      | (go_at_call_of 122 v5
         refine (add_callsI v5 w2.heap.size _ _ _ 8 w5.drew HO5.out hw5 (by omega) (by omega) (by omega) (by omega) (by simp)).mono ?_
         rintro e w6 ⟨v6, rfl, ho6, hc6⟩
         have HO6 := Lib.hid ho6
         have HC6 := Lib.hid hc6
         clear ho6 hc6
         have X6 := Lib.hid (X5.out.drew.chg HC6.out (by omega))
         have x63 := X6.out.cell 3
         have x64 := X6.out.cell 4
         simp at x63 x64
         have hw6 : w2.heap.size ≤ w6.heap.size := by have := HC6.out.size; simp at this; omega)
      | (go_at_call_of 122 v6
         refine (add_callsI v6 w2.heap.size _ _ _ 8 w6 HO6.out hw6 (by omega) (by omega) (by omega) (by omega) (by simp)).mono ?_
         rintro e w7 ⟨v7, rfl, ho7, hc7⟩
         obtain ⟨A7, c7, rfl, _, _⟩ := own_slice ho7
         have HO7 := Lib.hid ho7
         have HC7 := Lib.hid hc7
         clear ho7 hc7
         have X7 := Lib.hid (X6.out.chg HC7.out (by omega))
         have x73 := X7.out.cell 3
         have x74 := X7.out.cell 4
         simp at x73 x74
         have hw7 : w2.heap.size ≤ w7.heap.size := by have := HC7.out.size; omega))
  clear x3 x4 x63 x64 x73 x74 hew
  have HO8 : Hid (w7.ownsRow w2.heap.size tU8 1 (.slice A7 24 c7) 24 (bys (hd24 x))) := own_eq HO7.out rfl (hd24_bys x hk2)
  have HR8 : Hid (Rd w7 tU8 A7 24 (bys (hd24 x))) := Rd.ofOwn HO8.out
  have HC7' : Hid (Chg (fun i => w2.heap.size ≤ i) w2 w7) := (HC3.out.trans (HC4.out.trans HC5.out)).trans ((Chg.refl _ _).drew.trans (HC6.out.trans HC7.out))
  have HRB : Hid (Rd w7 tU8 (some ⟨w1.heap.size, 0, none⟩) (x.key.size + x.val.size) (bys (body x))) := by
    have h := HRD.out.lo HC7'.out HL1.out
    have e : (x.key ++ x.val).data.toList = body x := by simp [body]
    rw [e] at h
    show Rd _ _ _ _ _
    simpa using h
  have hw7 : w2.heap.size ≤ w7.heap.size := HC7'.out.size
  have H1 := Lib.hid (crc_calls A7 24 c7 (hd24 x) w7 HR8.out (by omega))
  have H2 := Lib.hid (crc_calls (some ⟨w1.heap.size, 0, none⟩) (x.key.size + x.val.size) cap (body x) w7 HRB.out (by omega))
  clear HO7 HC3 HC4 HC5 HC6 HC7 HO3 HO4 HO5 HO6 X2 X3 X4 X5 X6 X7 HRD HX HS2
  have hc1 : (crc (hd24 x) : Int) < 4294967296 := by have := crc_lt (hd24 x); omega
  have hc2 : (crc (body x) : Int) < 4294967296 := by have := crc_lt (body x); omega
  go_wp2_with fail
  refine H1.out.mono ?_
  rintro e w8 ⟨rfl, rfl⟩
  go_wp2_with fail
  refine (add_callsI _ w2.heap.size 24 _ _ 4 w7 HO8.out hw7 (by omega) (by omega) (by omega) (by omega) (by omega)).mono ?_
  rintro e w9 ⟨v9, rfl, ho9, hc9⟩
  obtain ⟨A9, c9, rfl, _, _⟩ := own_slice ho9
  have HO9 := Lib.hid ho9
  have HC9 : Hid (Chg (fun i => w2.heap.size ≤ i) w2 w9) := HC7'.out.trans hc9
  have HRB9 := Lib.hid (HRB.out.lo hc9 HL1.out)
  have H2 := Lib.hid (crc_calls (some ⟨w1.heap.size, 0, none⟩) (x.key.size + x.val.size) cap (body x) w9 HRB9.out (by omega))
  have hw9 : w2.heap.size ≤ w9.heap.size := HC9.out.size
  clear ho9 hc9
  go_wp2_with fail
  refine H2.out.mono ?_
  rintro e w10 ⟨rfl, rfl⟩
  go_wp2_with fail
  refine (add_callsI _ w2.heap.size _ _ _ 4 w9 HO9.out hw9 (by omega) (by omega) (by omega) (by omega) (by omega)).mono ?_
  rintro e w11 ⟨v11, rfl, ho11, hc11⟩
  have HO11 := Lib.hid ho11
  have HC11 : Hid (Chg (fun i => w2.heap.size ≤ i) w2 w11) := HC9.out.trans hc11
  have HRB11 := Lib.hid (HRB9.out.lo hc11 HL1.out)
  have hw11 : w2.heap.size ≤ w11.heap.size := HC11.out.size
  clear ho11 hc11
  go_wp2_with (first
    | (at_builtin; refine wpList_app _ rfl (.tmp 50) (.tmp 51) tBytes rfl tU8 Tryz.underlying40 ti_u8 rfl (by omega) w2.heap.size _ _ _ rfl HO11.out tU8 _ (x.key.size + x.val.size) cap _ rfl (by rw [Nat.mul_one]; exact HRB11.out) bys_one ?h63 ?hby hw11 ?_; (case h63 => simp only [maxLen]; simp; omega); (case hby => simp; omega); intro v12 w12 ho12 hg12 hb12; have HO12 := Lib.hid ho12; have HG12 := Lib.hid hg12; clear ho12 hg12 hb12))
  go_ret2
  have hc12 : Chg (fun i => w2.heap.size ≤ i) w2 w12 := HC11.out.grown HG12.out (fun k hk => .inl (own_new HO11.out k hk))
  refine ⟨v12, rfl, own_eq (own_base HO12.out (by omega)) ?_ ?_, (HC1.out.trans HC2.out).then hc12 (by intro i hi h; omega)⟩
  · rw [record_length, Item.size]
    simp
    omega
  · simp only [record, bys_append, Int.toNat_natCast, List.append_assoc]
    rfl
end Go.Proofs.YtplpbbdakihnfaaGreat
end
