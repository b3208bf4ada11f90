/- Packed texts: BuckD, BuckE, Step. -/
import Derived.Test.YtplpbbdakihnfaaGreatPq16
import Derived.Test.YtplpbbdakihnfaaGreatPq15
set_option linter.unusedSimpArgs false
set_option linter.unusedVariables false
section
namespace Go.Proofs.YtplpbbdakihnfaaGreat
open Go.RowKit
theorem cell_at {w : World} {t : TypeId} {g k : Nat} {xs : List Value} (h : Rd w t (some ⟨g, 0, none⟩) k xs) {j : Nat} {u : Value} (hu : xs[j]? = some u) : w.cell? ⟨g, j, none⟩ = some u := by
  have hj : j < k := by rw [← h.1]; exact (List.getElem?_eq_some_iff.1 hu).1
  obtain ⟨g', off, hg, _, hc⟩ := h.at_ hj
  injection hg with hg
  injection hg with h1 h2 _
  subst h1; subst h2
  simpa using hc j u hu
def fitN : List Item → Nat
  | [] => 0
  | x :: r => if 384 < (records (x :: r)).length then fitN r + 1 else 0
def Sto.nw (B : Sto) (D : Dev) (x : Item) : List Item := rid (B.lL D (B.no x.key)) x.key ++ [x]
def Sto.putE (B : Sto) (D : Dev) (x : Item) : Int := D.writeE (B.first + B.no x.key) 384
def Sto.putD (B : Sto) (D : Dev) (x : Item) : Dev := D.write (B.first + B.no x.key) (layB ((B.nw D x).drop (fitN (B.nw D x))) 384)
def Sto.out (B : Sto) (D : Dev) (x : Item) : List Item := (B.nw D x).take (fitN (B.nw D x))
def Sto.add (B : Sto) (x : Item) : Sto := { B with fs := B.fs.modify (B.no x.key) fun bs => fadd bs (places 256 3 x.key.data.toList) }
theorem lst_good {k : Nat} : ∀ {b : List UInt8} {l : List Item}, lst k b = some l → goods l = true := by
  induction k with
  | zero => intro b l h; cases h
  | succ k ih =>
    intro b l h
    rw [lst] at h
    cases ht : take b with
    | none => rw [ht] at h; simp at h; subst h; rfl
    | bad => rw [ht] at h; cases h
    | ok x n =>
      rw [ht] at h
      have h1 := take_ok_len ht
      simp only [Option.map_eq_some_iff] at h
      obtain ⟨r, hr, rfl⟩ := h
      have h2 := ih hr
      simp only [goods, List.all_cons, Bool.and_eq_true] at h2 ⊢
      exact ⟨h1.2.2.1, h2⟩
theorem lL_good (B : Sto) (D : Dev) (i : Int) : goods (B.lL D i) = true := by
  unfold Sto.lL
  split
  · unfold listL
    cases hl : listOf (D.read (B.first + i)) with
    | none => rfl
    | some l => exact lst_good (k := (D.read (B.first + i)).length + 1) hl
  · rfl
theorem goods_rid {l : List Item} (h : goods l = true) (key : ByteArray) : goods (rid l key) = true := by
  unfold goods rid at *
  rw [List.all_eq_true] at h ⊢
  intro x hx
  exact h x (List.mem_filter.1 hx).1
theorem layE_good {l : List Item} (h : goods l = true) : layE l ((384 : Nat) : Int) = if 384 < (records l).length then 7 else 0 := by
  unfold layE
  rw [h, if_pos rfl, if_neg (by omega)]
  by_cases h1 : 384 < (records l).length
  · rw [if_pos h1, if_pos (by omega)]
  · rw [if_neg h1, if_neg (by omega)]
theorem goods_drop {l : List Item} (h : goods l = true) (k : Nat) : goods (l.drop k) = true := by
  unfold goods at *
  rw [List.all_eq_true] at h ⊢
  exact fun x hx => h x (List.mem_of_mem_drop hx)
theorem fitN_step {l : List Item} {k : Nat} {y : Item} (hk : l[k]? = some y) (h : 384 < (records (l.drop k)).length) : fitN (l.drop k) = 1 + fitN (l.drop (k + 1)) := by
  have hlt : k < l.length := (List.getElem?_eq_some_iff.1 hk).1
  rw [List.drop_eq_getElem_cons hlt] at h ⊢
  rw [fitN, if_pos h]; omega
theorem fitN_stop {l : List Item} (h : ¬ 384 < (records l).length) : fitN l = 0 := by
  cases l with
  | nil => rfl
  | cons x r => rw [fitN, if_neg h]
theorem sub_one {P : Program} {T e : TypeId} {z : Value} {size bytes : Nat} (hT : P.underlying T = some (.slice e)) (hi : TI P e z size bytes) (hs0 : 0 < size) (g o n c : Nat) (hc : ¬ c = 1) (hn : 1 ≤ n) (hnc : n ≤ c) :
    ∀ W : World, (Instr.slice T (.slice (some ⟨g, o, none⟩) n c) (some (.int .i64 1)) none none).run P W = .ok (.slice (some ⟨g, o + size, none⟩) (n - 1) (c - 1)) W := by
  obtain ⟨i, hi', hz, hs, hby⟩ := info_parts hi
  intro W
  have hsz : (sizeOf e).run P W = .ok size W := by simp [sizeOf, typeInfo, hi', hs]
  simp only [Instr.slice, Sem.run_bind, run_underlying hT, Result.andThen, Instr.sliceBounds, Sem.run_pure]
  rw [run_sliceBound _ _ _ _ _ (by omega) (by omega)]
  simp only [hsz]
  have h1 : (1 : Int).toNat = 1 := rfl
  rw [h1, if_neg hc]
  simp [Addr.add, Nat.pos_iff_ne_zero.1 hs0]
theorem lay_384 (A : Option Addr) (n c : Nat) (l : List Item) (w : World) (hg : goods l = true) (hn : n = l.length) (hle : n ≤ 10000000) (hr : Rd w tItem A (n * 5) (its l)) :
    Calls Tryz.prog 73 #[.slice A n c, .int .i64 384] w fun e w' => ∃ v, e = .returned (.tuple #[v, .int .i64 (if 384 < (records l).length then 7 else 0)]) ∧ w'.ownsRow w.heap.size tU8 1 v (layB l ((384 : Nat) : Int)).length (bys (layB l ((384 : Nat) : Int))) ∧ Chg No w w' := by
  subst hn
  have h := lay_calls A c l 384 w hr hle (by omega)
  rw [layE_good hg] at h
  exact h
theorem layB_384 {l : List Item} (hg : goods l = true) (h : ¬ 384 < (records l).length) : (layB l ((384 : Nat) : Int)).length = 384 := by
  unfold layB
  rw [layE_good hg, if_neg h, if_pos rfl]
  simp; omega
theorem StoAt.add {w w' : World} {h : DevH} {t : StoH} {B : Sto} (hs : StoAt w h t B) {i p q : Nat} (hi : i < B.fs.length) (hps : t.ps[i]? = some (p, q)) (f : List Bool → List Bool) (hc : Chg (fun k => k = q) w w') (hf : Flt w' p q (f (B.fs.getD i []))) :
    StoAt w' h t { B with fs := B.fs.modify i f } := by
  have hq := (hs.flt i (p, q) (B.fs.getD i []) hps (by rw [List.getD_eq_getElem?_getD, List.getElem?_eq_getElem hi]; rfl))
  have ne : ∀ {g T cs}, T ≠ tBool → Blk w g T cs → ¬ g = q := fun hT hb => hb.ne_ hq.bits hT
  refine { box := ?_, row := ?_, len := ?_, flt := ?_, apart := hs.apart, most := ?_, fit := hs.fit }
  · have := hs.box.chg hc (ne (by decide) hs.box)
    simpa using this
  · obtain ⟨cur, h1, h2⟩ := hs.row
    exact ⟨cur, h1.chg hc (ne (by decide) h1), h2⟩
  · simpa using hs.len
  · intro j p' bs hj hb
    by_cases hij : j = i
    · subst hij
      rw [hps] at hj
      injection hj with hj
      subst hj
      simp only [List.getElem?_modify, if_true] at hb
      rw [List.getElem?_eq_getElem hi] at hb
      simp at hb
      subst hb
      rw [List.getD_eq_getElem?_getD, List.getElem?_eq_getElem hi] at hf
      exact hf
    · simp only [List.getElem?_modify, if_neg (Ne.symm hij)] at hb
      simp at hb
      have hfj := hs.flt j p' bs hj hb
      refine hfj.chg hc (ne (by decide) hfj.head) ?_
      intro he
      apply hij
      have h1 : (t.ps.map (·.2))[j]? = some p'.2 := by rw [List.getElem?_map, hj]; rfl
      have h2 : (t.ps.map (·.2))[i]? = some q := by rw [List.getElem?_map, hps]; rfl
      rw [he] at h1
      exact (List.getElem?_inj (List.getElem?_eq_some_iff.1 h1).1 hs.apart).1 (h1.trans h2.symm)
  · simpa using hs.most
set_option maxRecDepth 100000 in
set_option maxHeartbeats 1000000 in
theorem sput_calls {N : Nat} {w : World} {h : DevH} {D : Dev} {t : StoH} {B : Sto} (hd : DevN N w h D) (hs : StoAt w h t B) (hp : 0 < B.fs.length) (x : Item) (hg : x.good = true) (hx : x.size ≤ 120)
    (he : B.lE D (B.no x.key) = 0) (hw : B.putE D x = 0) :
    Calls Tryz.prog 42 #[.pointer (some ⟨t.s, 0, none⟩), itemV x] w fun e w' => ∃ v, e = .returned (.tuple #[v, .int .i64 0]) ∧
      w'.ownsRow w.heap.size tItem 5 v (B.out D x).length (its (B.out D x)) ∧ DevAt w' h (B.putD D x) ∧ StoAt w' h t (B.add x) ∧ Chg (fun k => h.foot k ∨ ∃ p ∈ t.ps, k = p.2) w w' := by
  have hgg := hg
  simp only [Item.good, Bool.and_eq_true, decide_eq_true_eq] at hgg
  have HOF := fun W => Lib.hid (fun hc : Chg No w W => of_calls (hs.chgNo hc) hp x.key (by omega))
  have HG := fun W => Lib.hid (good_calls x W)
  rw [hg] at HG
  have HSZ := fun W => Lib.hid (size_calls x W (by omega) (by omega))
  have hlt := B.no_lt hp x.key
  have hmost := hs.most
  obtain ⟨hf1, hf2⟩ := hs.fit
  have hll := lL_le hd B (B.no x.key)
  have hlg := lL_good B D (B.no x.key)
  have HL := fun W => Lib.hid (fun hc : Chg No w W => blist_calls (hd.chgNo hc) (hs.chgNo hc) (B.no x.key) (by omega))
  rw [he] at HL
  have HNW : Hid (B.nw D x = rid (B.lL D (B.no x.key)) x.key ++ [x]) := rfl
  have HPD : Hid (B.putD D x = D.write (B.first + B.no x.key) (layB ((B.nw D x).drop (fitN (B.nw D x))) 384)) := rfl
  have HOUT : Hid (B.out D x = (B.nw D x).take (fitN (B.nw D x))) := rfl
  have HPE : Hid (D.writeE (B.first + B.no x.key) 384 = 0) := hw
  have HAD : Hid (B.add x = { B with fs := B.fs.modify (B.no x.key) fun bs => fadd bs (places 256 3 x.key.data.toList) }) := rfl
  obtain ⟨i, hi⟩ : ∃ i, i = B.no x.key := ⟨_, rfl⟩
  obtain ⟨l, hl⟩ : ∃ l, l = B.lL D (B.no x.key) := ⟨_, rfl⟩
  rw [← hl] at HL HNW hll hlg
  rw [← hi] at HL HPE HPD HAD HOF hlt
  have HD := Lib.hid hd
  have HS := Lib.hid hs
  have HGD := Lib.hid hg
  have hadd : IntKind.i64.wrap (B.first + (i : Int)) = B.first + (i : Int) := IntWalk.i64_in _ (by omega)
  have hxx : ¬ 120 < x.size := by omega
  have hklen : x.key.size ≤ 140737488351232 := by omega
  clear hd hs he hi hl hw hg hgg
  go_enter Tryz.func42, Tryz.ntmps42
  go_wp2_with fail
  refine (HG _).out.mono ?_
  rintro e w1 ⟨rfl, hc1⟩
  have HB := Lib.hid ((Blk.new w 39 (itc x).toArray).chg hc1 (fun h => h))
  simp only [itc] at HB
  have HC1 : Hid (Chg No w w1) := ((Chg.refl _ _).alloc _).trans hc1
  clear hc1
  (have d0 := HB.out.cell 0; have d1 := HB.out.cell 1; have d2 := HB.out.cell 2; have d3 := HB.out.cell 3; have d4 := HB.out.cell 4; simp at d0 d1 d2 d3 d4)
  go_wp2_with fail
  refine (HSZ _).out.mono ?_
  rintro e w2 ⟨rfl, hc2⟩
  have HB1 := HB
  clear HB
  have HB := Lib.hid (HB1.out.chg hc2 (fun h => h))
  have HC2 : Hid (Chg No w w2) := HC1.out.trans hc2
  clear hc2 d0 d1 d2 d3 d4 HB1 HC1
  (have d0 := HB.out.cell 0; have d1 := HB.out.cell 1; have d2 := HB.out.cell 2; have d3 := HB.out.cell 3; have d4 := HB.out.cell 4; simp at d0 d1 d2 d3 d4)
  go_wp2_with fail
  refine ((HOF _).out HC2.out).mono ?_
  rintro e w3 ⟨rfl, hc3⟩
  have HC3 : Hid (Chg No w w3) := HC2.out.trans hc3
  have HB1 := HB
  clear HB
  have HB := Lib.hid (HB1.out.chg hc3 (fun h => h))
  clear hc3 d0 d1 d2 d3 d4 HB1 HC2
  go_wp2_with fail
  refine ((HL _).out HC3.out).mono ?_
  rintro e w4 ⟨v4, rfl, ho4, hd4, hc4⟩
  obtain ⟨A, c, rfl, hnc, hrd, h00⟩ := own_slice2 ho4
  have HC4 : Hid (Chg h.foot w w4) := (HC3.out.mono (fun _ _ h => h.elim)).trans hc4
  have HD4 := Lib.hid hd4
  have hwb := HB.out.lt
  have HB1 := HB
  clear HB
  have HB := Lib.hid (HB1.out.chg hc4 (fun hf => by have := foot_lt HD.out hf; omega))
  have hwb4 := HB.out.lt
  have HW := fun W => Lib.hid (fun hc : Chg No w4 W => without_calls A c x.key l W (hrd.chg hc (fun _ _ _ _ h => h)) (by omega) h00)
  clear hc4 ho4 hd4 h00 HB1 HC3 hrd
  (have d0 := HB.out.cell 0; have d1 := HB.out.cell 1; have d2 := HB.out.cell 2; have d3 := HB.out.cell 3; have d4 := HB.out.cell 4; simp at d0 d1 d2 d3 d4)
  have hml : (rid l x.key).length ≤ l.length := List.length_filter_le _ _
  go_wp2_with fail
  go_region_held3 (fun w' => w'.cell? ⟨w.heap.size, 0, none⟩ = some (.string x.key) ∧ w'.cell? ⟨w.heap.size, 1, none⟩ = some (.string x.val) ∧ w'.cell? ⟨w.heap.size, 2, none⟩ = some (.int .u32 x.flags.toNat) ∧ w'.cell? ⟨w.heap.size, 3, none⟩ = some (.int .i64 x.exp.toInt) ∧ w'.cell? ⟨w.heap.size, 4, none⟩ = some (.int .u64 x.ver.toNat)) (first | go_keep)
    ((first
      | (go_at_call 72
         refine ((HW _).out (by (repeat (first | (with_reducible exact Chg.refl _ _) | (with_reducible assumption) | (with_reducible refine Chg.drewN ?_ _) | (with_reducible refine Chg.drew ?_) | (with_reducible refine Chg.alloc ?_ _) | (with_reducible refine Chg.setCell ?_ (by first | (left; simp [DevH.foot]; done) | (right; simp; done) | (right; simp; omega)) _))))).mono ?_
         rintro e w5 ⟨v5, rfl, ho5, hc5⟩
         have HO5 := Lib.hid (own_base ho5 (by simp; omega : w.heap.size + 1 ≤ _))
         have HC5 := Lib.hid hc5
         have HB5 := Lib.hid (HB.out.chg ((by (repeat (first | (with_reducible exact Chg.refl _ _) | (with_reducible assumption) | (with_reducible refine Chg.drewN ?_ _) | (with_reducible refine Chg.drew ?_) | (with_reducible refine Chg.alloc ?_ _) | (with_reducible refine Chg.setCell ?_ (by first | (left; simp [DevH.foot]; done) | (right; simp; done) | (right; simp; omega)) _))) : Chg No w4 _).trans hc5) (fun h => h))
         clear hc5 ho5
         have b50 := HB5.out.cell 0
         have b51 := HB5.out.cell 1
         have b52 := HB5.out.cell 2
         have b53 := HB5.out.cell 3
         have b54 := HB5.out.cell 4
         simp at b50 b51 b52 b53 b54)
      | (refine step_app _ (by rfl) (.tmp 36) (.tmp 38) 46 (by rfl) tItem Tryz.underlying46 ti_item rfl (by omega) (w.heap.size + 1) v5 _ _ (by rfl) (by first | exact HO5.out.alloc _ | exact HO5.out) tItem _ 1 1 (itc x) (by rfl) (by first | exact rd_item _ x | exact Rd.chg (Rd.drew (rd_item _ x)) HC5.out (fun _ _ _ _ h => h) | exact Rd.chg (rd_item _ x) HC5.out (fun _ _ _ _ h => h)) (itc_one_cell x) (by simp only [maxLen]; omega) (by omega) (by have := HC5.out.size; simp at this ⊢; omega) ?_
         intro v6 w6 ho6 hg6 hb6
         have HO6 := Lib.hid ho6
         have HC6 : Hid (Chg (fun k => w.heap.size < k) w5 w6) := Chg.grown (by (repeat (first | (with_reducible exact Chg.refl _ _) | (with_reducible assumption) | (with_reducible refine Chg.drewN ?_ _) | (with_reducible refine Chg.drew ?_) | (with_reducible refine Chg.alloc ?_ _) | (with_reducible refine Chg.setCell ?_ (by first | (left; simp [DevH.foot]; done) | (right; simp; done) | (right; simp; omega)) _)))) hg6 (fun k' hk' => .inl (own_new HO5.out k' hk'))
         have HB6 := Lib.hid (HB5.out.chg HC6.out (by omega))
         clear ho6 hg6 hb6
         have b60 := HB6.out.cell 0
         have b61 := HB6.out.cell 1
         have b62 := HB6.out.cell 2
         have b63 := HB6.out.cell 3
         have b64 := HB6.out.cell 4
         simp at b60 b61 b62 b63 b64)))
  all_goals
    have HX6 : Hid (Chg h.foot w w6 ∧ w.heap.size < w6.heap.size) := by
      have h1 : Chg (fun k => w.heap.size < k) w4 w6 := (((by (repeat (first | (with_reducible exact Chg.refl _ _) | (with_reducible assumption) | (with_reducible refine Chg.drewN ?_ _) | (with_reducible refine Chg.drew ?_) | (with_reducible refine Chg.alloc ?_ _) | (with_reducible refine Chg.setCell ?_ (by first | (left; simp [DevH.foot]; done) | (right; simp; done) | (right; simp; omega)) _))) : Chg No w4 _).trans HC5.out).mono (fun _ _ h => h.elim)).trans HC6.out
      exact ⟨HC4.out.then h1 (fun i hi hT => by omega), HB6.out.lt⟩
    obtain ⟨m, hm⟩ : ∃ m, m = rid l x.key := ⟨_, rfl⟩
    obtain ⟨pl, hpl⟩ : ∃ pl, pl = m ++ [x] := ⟨_, rfl⟩
    have hplen : pl.length = m.length + 1 := by rw [hpl]; simp
    rw [← hm] at HO6 HNW hml
    have hpg : goods pl = true := by rw [hpl, goods_append, hm, goods_rid hlg]; simp [goods, HGD.out]
    rw [← hpl] at HNW
    have HO : Hid (w6.ownsRow (w.heap.size + 1) tItem 5 v6 pl.length (its pl)) := by
      show World.ownsRow _ _ _ _ _ _ _
      rw [hplen, hpl, its_append, its_one]
      exact HO6.out
    rw [HNW.out] at HOUT HPD
    have HD6 := Lib.hid (devN_new HD.out HD4.out HC4.out ((((by (repeat (first | (with_reducible exact Chg.refl _ _) | (with_reducible assumption) | (with_reducible refine Chg.drewN ?_ _) | (with_reducible refine Chg.drew ?_) | (with_reducible refine Chg.alloc ?_ _) | (with_reducible refine Chg.setCell ?_ (by first | (left; simp [DevH.foot]; done) | (right; simp; done) | (right; simp; omega)) _))) : Chg No w4 _).trans HC5.out).mono (fun _ _ h => h.elim)).trans (HC6.out.mono (fun _ _ h => Nat.le_of_lt h)))).1
    rcases HO.out.2 with ⟨_, h0⟩ | ⟨g7, c7, cur, rfl, hb7, hg7, hnc7, hcm7, hcs7, htk7⟩
    · omega
    have HLA := fun k A c W => Lib.hid (fun hr : Rd W tItem A ((pl.drop k).length * 5) (its (pl.drop k)) => lay_calls A c (pl.drop k) 384 W hr (by rw [List.length_drop]; omega) (by omega))
    have hR6 := Rd.ofOwn HO.out
    have HR6 := Lib.hid hR6
    have HLA0 := (HLA 0 (some ⟨g7, 0, none⟩) c7 w6).out (by simpa using hR6)
    simp only [List.drop_zero] at HLA0
    have hlay0 := layE_good hpg
    obtain ⟨E0, hE0⟩ : ∃ E0, E0 = layE pl ((384 : Nat) : Int) := ⟨_, rfl⟩
    rw [← hE0] at HLA0 hlay0
    have HE0 := Lib.hid hE0
    have HLAY0 := Lib.hid hlay0
    have hpl0 : 0 < pl.length := by omega
    have hpl13 : pl.length ≤ 13 := by omega
    clear hplen hlay0
    have hg7lt : g7 < w6.heap.size := (Array.getElem?_eq_some_iff.1 hg7).1
    have HPL := Lib.hid hpl
    clear hR6 hE0 hb7 hg7 hcm7 hcs7 htk7 hm hpl b60 b61 b62 b63 b64 d0 d1 d2 d3 d4
    have HLA0' := Lib.hid HLA0
    clear HLA0
    have HPG := Lib.hid hpg
    clear hpg
    go_wp2_with fail
    refine HLA0'.out.mono ?_
    rintro e w7 ⟨v10, rfl, ho7, hc7⟩
    have HO7 := Lib.hid ho7
    have HC7 := Lib.hid hc7
    clear ho7 hc7
    go_wp2
    go_loopg [7, 8, 9, 10] pl.length (fun g z7 z8 z9 z10 wr => ∃ (k o n' c' : Nat) (E : Int) (A10 : Option Addr) (c10 n10 : Nat), k < pl.length ∧ n' = g ∧ Hid (n' + k = pl.length ∧ c' + k = c7 ∧ o = k * 5) ∧ z7 = .slice (some ⟨g7, o, none⟩) n' c' ∧ z8 = .int .i64 E ∧ z10 = .slice A10 n10 c10 ∧
      E = (if 384 < (records (pl.drop k)).length then 7 else 0) ∧ Hid (n10 = (layB (pl.drop k) 384).length ∧ Chg No w6 wr ∧ wr.ownsRow w6.heap.size tItem 5 z9 k (its (pl.take k)) ∧ Rd wr tU8 A10 n10 (bys (layB (pl.drop k) 384)) ∧ fitN pl = k + fitN (pl.drop k)))
    case atStart =>
      obtain ⟨A10, c10, rfl, hnc10, hrd10⟩ := own_slice HO7.out
      refine ⟨0, 0, pl.length, c7, E0, A10, c10, _, by omega, rfl, ⟨rfl, rfl, rfl⟩, rfl, rfl, rfl, by simpa using HLAY0.out, by simp, HC7.out, ?_, by simpa using hrd10, by simp⟩
      exact World.ownsRow_nil _ _ _ _
    case round =>
      obtain ⟨k, o, n', c', E, A10, c10, n10, hkp, hgn, HNC, rfl, rfl, rfl, hE, H⟩ := hrel
      subst hgn
      obtain ⟨hn', hc', ho'⟩ := HNC.out
      by_cases hfull : 384 < (records (pl.drop k)).length
      · rw [if_pos hfull] at hE
        subst hE
        have hk1 : k + 1 < pl.length := by
          rcases Nat.lt_or_ge (k + 1) pl.length with h | h
          · exact h
          · have hl1 : pl.length = m.length + 1 := by rw [HPL.out]; simp
            have e : pl.drop k = [x] := by rw [HPL.out, show k = m.length by omega]; simp
            rw [e] at hfull
            simp only [records, List.flatMap_cons, List.flatMap_nil, List.append_nil, record_length] at hfull
            omega
        obtain ⟨y, hy⟩ : ∃ y, pl[k]? = some y := ⟨_, List.getElem?_eq_getElem hkp⟩
        have HFL := Lib.hid (fitN_step hy hfull)
        have hrr : Rd wr tItem (some ⟨g7, 0, none⟩) (pl.length * 5) (its pl) := HR6.out.chg H.out.2.1 (fun _ _ _ _ h => h)
        obtain ⟨g8, off8, hgg, hg8, hc8⟩ := hrr.at_ (j := 0) (by omega)
        injection hgg with hgg
        injection hgg with hgg hoff _
        subst hgg; subst hoff
        have c0 := hc8 (k * 5 + 0) _ (its_get pl k 0 y hy (by omega))
        have c1 := hc8 (k * 5 + 1) _ (its_get pl k 1 y hy (by omega))
        have c2 := hc8 (k * 5 + 2) _ (its_get pl k 2 y hy (by omega))
        have c3 := hc8 (k * 5 + 3) _ (its_get pl k 3 y hy (by omega))
        have c4 := hc8 (k * 5 + 4) _ (its_get pl k 4 y hy (by omega))
        simp only [itc, List.getElem_cons_zero, List.getElem_cons_succ, ← Nat.add_assoc, Nat.add_zero, Nat.zero_add, ← ho'] at c0 c1 c2 c3 c4
        have HY := Lib.hid hy
        have HRR := Lib.hid hrr
        have HOO := Lib.hid H.out.2.2.1
        have HCR := Lib.hid H.out.2.1
        have HFT := Lib.hid H.out.2.2.2.2
        have hwr6 : w6.heap.size ≤ wr.heap.size := HCR.out.size
        have hs1 := sub_one (P := Tryz.prog) Tryz.underlying46 ti_item (by omega) g7 o n' c' (by omega) (by omega) (by omega)
        have hs1' : ∀ W : World, (Instr.sliceAt 46 (.slice (some ⟨g7, o, none⟩) n' c') (some (.int .i64 1)) none none).run Tryz.prog W = _ := fun W => (run_sliceAt_slice W _ _ _ _ _ Tryz.underlying46).trans (hs1 W)
        have hpk1 : (0 : Int) < (n' : Int) := by omega
        have hpk2 : 0 < n' := by omega
        clear hfull hy hrr hc8 H hn' hc' ho'
        go_wp2_with fail
        go_region_held3 (fun w' => w'.cell? ⟨g7, o, none⟩ = some (.string y.key) ∧ w'.cell? ⟨g7, o + 1, none⟩ = some (.string y.val) ∧ w'.cell? ⟨g7, o + 2, none⟩ = some (.int .u32 y.flags.toNat) ∧ w'.cell? ⟨g7, o + 3, none⟩ = some (.int .i64 y.exp.toInt) ∧ w'.cell? ⟨g7, o + 4, none⟩ = some (.int .u64 y.ver.toNat)) (first | go_keep)
          ((first
            | (go_loud (refine step_app _ (by rfl) (.tmp 47) (.tmp 51) 46 (by rfl) tItem Tryz.underlying46 ti_item rfl (by omega) w6.heap.size _ _ _ (by rfl) (by first | exact HOO.out.alloc _ | exact HOO.out) tItem _ 1 1 (itc y) (by rfl) (by first | exact rd_item _ y | exact Rd.drew (rd_item _ y)) (itc_one_cell y) (by simp only [maxLen]; omega) (by omega) (by simp; omega) ?_)
               intro v9 w9 ho9 hg9 hb9
               have HO9 := Lib.hid ho9
               have HC9 : Hid (Chg No w6 w9) := Chg.grown (by have := HCR.out; (repeat (first | (with_reducible exact Chg.refl _ _) | (with_reducible assumption) | (with_reducible refine Chg.drewN ?_ _) | (with_reducible refine Chg.drew ?_) | (with_reducible refine Chg.alloc ?_ _) | (with_reducible refine Chg.setCell ?_ (by first | (left; simp [DevH.foot]; done) | (right; simp; done) | (right; simp; omega)) _)))) hg9 (fun k' hk' => .inr (own_new HOO.out k' hk'))
               clear ho9 hg9 hb9
               have HY9 := fun j u => Lib.hid (fun hu => cell_at (HR6.out.chg HC9.out (fun _ _ _ _ h => h)) (j := j) (u := u) hu)
               have e0 := (HY9 _ _).out (its_get pl k 0 y HY.out (by omega))
               have e1 := (HY9 _ _).out (its_get pl k 1 y HY.out (by omega))
               have e2 := (HY9 _ _).out (its_get pl k 2 y HY.out (by omega))
               have e3 := (HY9 _ _).out (its_get pl k 3 y HY.out (by omega))
               have e4 := (HY9 _ _).out (its_get pl k 4 y HY.out (by omega))
               simp only [itc, List.getElem_cons_zero, List.getElem_cons_succ, ← Nat.add_assoc, Nat.add_zero, Nat.zero_add, ← HNC.out.2.2] at e0 e1 e2 e3 e4)))
        all_goals
          have HGD' := goods_drop HPG.out (k + 1)
          have hdl : n' - 1 = (pl.drop (k + 1)).length := by rw [List.length_drop]; have := HNC.out.1; omega
          have hrd9 : Rd w9 tItem (some ⟨g7, o + 5, none⟩) ((n' - 1) * 5) (its (pl.drop (k + 1))) := by
            have h1 := (HR6.out.chg HC9.out (fun _ _ _ _ h => h)).drop (m := (k + 1) * 5) (by omega) False (fun h => h.elim)
            rw [if_neg (fun h => h)] at h1
            have e1 : (some (⟨g7, 0, none⟩ : Addr)).map (·.add ((k + 1) * 5)) = some ⟨g7, o + 5, none⟩ := by
              rw [HNC.out.2.2]
              simp [Addr.add, Nat.add_mul]
            rw [e1, ← its_drop] at h1
            have e2 : pl.length * 5 - (k + 1) * 5 = (n' - 1) * 5 := by have := HNC.out.1; omega
            rw [e2] at h1
            exact h1
          have hLL := fun W => Lib.hid (fun hc : Chg No w9 W => lay_384 (some ⟨g7, o + 5, none⟩) (n' - 1) (c' - 1) (pl.drop (k + 1)) W HGD' hdl (by have := HNC.out.1; omega) (hrd9.chg hc (fun _ _ _ _ h => h)))
          obtain ⟨E', hE'⟩ : ∃ E' : Int, E' = (if 384 < (records (pl.drop (k + 1))).length then 7 else 0) := ⟨_, rfl⟩
          rw [← hE'] at hLL
          have HEE := Lib.hid hE'
          clear hE' hrd9 HGD' hdl
          go_wp2_with fail
          refine ((hLL _).out (by (repeat (first | (with_reducible exact Chg.refl _ _) | (with_reducible assumption) | (with_reducible refine Chg.drewN ?_ _) | (with_reducible refine Chg.drew ?_) | (with_reducible refine Chg.alloc ?_ _) | (with_reducible refine Chg.setCell ?_ (by first | (left; simp [DevH.foot]; done) | (right; simp; done) | (right; simp; omega)) _))))).mono ?_
          rintro e w10 ⟨v10, rfl, ho10, hc10⟩
          obtain ⟨A11, c11, rfl, hnc11, hrd11⟩ := own_slice ho10
          have HRD11 := Lib.hid hrd11
          have HC10 : Hid (Chg No w9 w10) := (by (repeat (first | (with_reducible exact Chg.refl _ _) | (with_reducible assumption) | (with_reducible refine Chg.drewN ?_ _) | (with_reducible refine Chg.drew ?_) | (with_reducible refine Chg.alloc ?_ _) | (with_reducible refine Chg.setCell ?_ (by first | (left; simp [DevH.foot]; done) | (right; simp; done) | (right; simp; omega)) _))) : Chg No w9 _).trans hc10
          clear hrd11 ho10 hc10
          go_wp2
          go_roundg (n' - 1)
          case measure => omega
          case rel =>
            refine ⟨k + 1, o + 5, n' - 1, c' - 1, E', A11, c11, _, hk1, rfl, ⟨by have := HNC.out.1; omega, by have := HNC.out.2.1; omega, by have := HNC.out.2.2; omega⟩, rfl, rfl, rfl, HEE.out, rfl, HC9.out.trans HC10.out, ?_, by simpa using HRD11.out, ?_⟩
            · have h1 := own_chg HO9.out HC10.out (fun _ _ h => h)
              rw [List.take_add_one, HY.out]
              show World.ownsRow _ _ _ _ _ _ (its (pl.take k ++ [y]))
              rw [its_append, its_one]
              exact h1
            · rw [HFT.out, HFL.out]; omega
      · rw [if_neg hfull] at hE
        subst hE
        have hkk : fitN pl = k := by rw [H.out.2.2.2.2, fitN_stop hfull]; rfl
        have hb384 := layB_384 (goods_drop HPG.out k) hfull
        have HO9 := Lib.hid H.out.2.2.1
        have HCR := Lib.hid H.out.2.1
        obtain ⟨b, hbb⟩ : ∃ b, b = layB (pl.drop k) ((384 : Nat) : Int) := ⟨_, rfl⟩
        have HRD : Hid (Rd wr tU8 A10 n10 (bys b)) := by show Rd _ _ _ _ _; rw [hbb]; exact H.out.2.2.2.1
        have hn10 : n10 = b.length := by rw [hbb]; exact H.out.1
        subst hn10
        rw [← hbb] at hb384
        rw [hkk] at HOUT HPD
        have HPD2 : Hid (B.putD D x = D.write (B.first + i) b) := by show _ = _; rw [hbb]; exact HPD.out
        have HXW : Hid (Chg h.foot w wr ∧ w.heap.size < wr.heap.size) := ⟨HX6.out.1.trans (HCR.out.mono (fun _ _ h => h.elim)), by have := HCR.out.size; have := HX6.out.2; omega⟩
        have HDR := Lib.hid (HD6.out.chgNo HCR.out)
        have HSR := Lib.hid (HS.out.foot HD.out HXW.out.1)
        have HBR := Lib.hid (HB6.out.chg HCR.out (fun h => h))
        have HWR := fun W => Lib.hid (fun hc : Chg No wr W => write_calls (HDR.out.chgNo hc) (B.first + (i : Int)) A10 b.length c10 b (HRD.out.chg hc (fun _ _ _ _ h => h)) (by omega))
        rw [hb384, HPE.out] at HWR
        have c04 := HSR.out.box.cell 0
        have c24 := HSR.out.box.cell 2
        simp at c04 c24
        have hl4 := HSR.out.box.lt
        clear hfull hkk hbb H hn' hc' ho'
        have hlt2 := hlt
        obtain ⟨p, q, hps, cg, hfl⟩ := HSR.out.at_ hlt2
        have HPS := Lib.hid hps
        have HFT : ∀ W, Hid (Chg h.foot w W → Flt W p q (B.fs.getD i [])) := fun W hc => by
          obtain ⟨p2, q2, hps2, _, hf2⟩ := (HS.out.foot HD.out hc).at_ hlt2
          have := hps.symm.trans hps2
          injection this with this
          injection this with h1 h2
          subst h1; subst h2
          exact hf2
        have HCG : ∀ W, Hid (Chg h.foot w W → W.cell? ⟨t.G, i, none⟩ = some (.pointer (some ⟨p, 0, none⟩))) := fun W hc => by
          obtain ⟨p2, q2, hps2, c2, _⟩ := (HS.out.foot HD.out hc).at_ hlt2
          have := hps.symm.trans hps2
          injection this with this
          injection this with h1 h2
          subst h1; subst h2
          exact c2
        clear hps cg hfl
        go_wp2_with fail
        go_region_held3 (fun w' => w'.cell? ⟨t.s, 0, none⟩ = some (.pointer (some ⟨h.d, 0, none⟩)) ∧ w'.cell? ⟨t.s, 2, none⟩ = some (.int .i64 B.first)) (first | go_keep)
          ((go_at_call 74
            refine ((HWR _).out (by (repeat (first | (with_reducible exact Chg.refl _ _) | (with_reducible assumption) | (with_reducible refine Chg.drewN ?_ _) | (with_reducible refine Chg.drew ?_) | (with_reducible refine Chg.alloc ?_ _) | (with_reducible refine Chg.setCell ?_ (by first | (left; simp [DevH.foot]; done) | (right; simp; done) | (right; simp; omega)) _))))).mono ?_
            rintro e w11 ⟨rfl, hd11, hc11⟩
            have HD11 := Lib.hid hd11
            have HC11 : Hid (Chg h.foot wr w11) := ((by (repeat (first | (with_reducible exact Chg.refl _ _) | (with_reducible assumption) | (with_reducible refine Chg.drewN ?_ _) | (with_reducible refine Chg.drew ?_) | (with_reducible refine Chg.alloc ?_ _) | (with_reducible refine Chg.setCell ?_ (by first | (left; simp [DevH.foot]; done) | (right; simp; done) | (right; simp; omega)) _))) : Chg No wr _).mono (fun _ _ h => h.elim)).trans hc11
            have HS11 := Lib.hid (HSR.out.foot HDR.out HC11.out)
            clear hd11 hc11
            have c05 := HS11.out.box.cell 0
            have c25 := HS11.out.box.cell 2
            simp at c05 c25))
        have HC12 : Hid (Chg h.foot w w11) := HXW.out.1.trans HC11.out
        have HB11 := Lib.hid (HBR.out.chg HC11.out (fun hf => by have := foot_lt HD.out hf; omega))
        have c35 := HS11.out.box.cell 3
        simp at c35
        have ck0 := HB11.out.cell 0
        simp at ck0
        have cgg := (HCG w11).out HC12.out
        have hl11 := HS11.out.box.lt
        have hlti : (i : Int) < (B.fs.length : Int) := by omega
        have HAA := fun W => Lib.hid (fun hc : Chg No w11 W => badd_calls p q (B.fs.getD i []) x.key W (((HFT w11).out HC12.out).chg hc (fun h => h) (fun h => h)) hklen)
        have HF11 := Lib.hid ((HFT w11).out HC12.out)
        obtain ⟨cur11, hcur11, hcc11⟩ := HS11.out.row
        have HCU := Lib.hid hcur11
        have hcg11 : cur11[i]? = some (.pointer (some ⟨p, 0, none⟩)) := hcc11 i _ HPS.out
        have HCI := Lib.hid hcg11
        clear hcur11 hcc11 hcg11
        go_wp2_with fail
        go_region_held3 (fun w' => w'.cell? ⟨t.s, 3, none⟩ = some (.slice (some ⟨t.G, 0, none⟩) B.fs.length t.cap) ∧ w'.cell? ⟨t.G, i, none⟩ = some (.pointer (some ⟨p, 0, none⟩)) ∧ w'.cell? ⟨w.heap.size, 0, none⟩ = some (.string x.key)) (first | go_keep)
          ((go_at_call 68
            refine ((HAA _).out (by (repeat (first | (with_reducible exact Chg.refl _ _) | (with_reducible assumption) | (with_reducible refine Chg.drewN ?_ _) | (with_reducible refine Chg.drew ?_) | (with_reducible refine Chg.alloc ?_ _) | (with_reducible refine Chg.setCell ?_ (by first | (left; simp [DevH.foot]; done) | (right; simp; done) | (right; simp; omega)) _))))).mono ?_
            rintro e w13 ⟨rfl, hf13, hc13⟩
            have HF13 := Lib.hid hf13
            have HC13 : Hid (Chg (fun k => k = q) w11 w13) := ((by (repeat (first | (with_reducible exact Chg.refl _ _) | (with_reducible assumption) | (with_reducible refine Chg.drewN ?_ _) | (with_reducible refine Chg.drew ?_) | (with_reducible refine Chg.alloc ?_ _) | (with_reducible refine Chg.setCell ?_ (by first | (left; simp [DevH.foot]; done) | (right; simp; done) | (right; simp; omega)) _))) : Chg No w11 _).mono (fun _ _ h => h.elim)).trans hc13
            clear hf13 hc13
            have n1 := HS11.out.box.chg HC13.out (HS11.out.box.ne_ HF11.out.bits (by decide))
            have n2 := HCU.out.chg HC13.out (HCU.out.ne_ HF11.out.bits (by decide))
            have n3 := HB11.out.chg HC13.out (HB11.out.ne_ HF11.out.bits (by decide))
            have e0 := n1.cell 3
            have e1 := n2.cell i
            have e2 := n3.cell 0
            rw [HCI.out] at e1
            clear n1 n2 n3
            simp at e0 e2))
        go_wp2
        go_ret2
        have hkl : (pl.take k).length = k := by rw [List.length_take]; omega
        have hdn : DevAt w13 h (B.putD D x) := by
          rw [HPD2.out]
          exact (HD11.out.chg HC13.out (fun e => by have := foot_lt HD11.out (show h.foot h.d from .inl rfl); exact HD11.out.not_foot HF11.out.bits (by decide) (by decide) (.inl e.symm)) (fun e => HD11.out.not_foot HF11.out.bits (by decide) (by decide) (.inr (.inl e.symm))) (fun e => HD11.out.not_foot HF11.out.bits (by decide) (by decide) (.inr (.inr e.symm)))
            (fun g cs T _ hT hb => hb.ne_ HF11.out.bits (by rcases hT with rfl | rfl <;> decide))).at_
        refine ⟨_, rfl, ?_, hdn, ?_, ?_⟩
        · rw [HOUT.out, hkl]
          have h1 := own_chg (own_base HO9.out (by have := HX6.out.2; omega : w.heap.size ≤ _)) HC11.out (fun k' hk' hf => by have h2 := own_new HO9.out k' hk'; have h3 := foot_lt HD6.out hf; omega)
          exact own_chg h1 HC13.out (fun k' hk' e => own_other h1 HF11.out.bits (by decide) (hk'.trans (by rw [e])))
        · rw [HAD.out]
          exact HS11.out.add hlt HPS.out _ HC13.out HF13.out
        · exact (HC12.out.mono (fun _ _ h => .inl h)).trans (HC13.out.mono (fun k' _ e => .inr ⟨(p, q), List.mem_of_getElem? HPS.out, e⟩))
end Go.Proofs.YtplpbbdakihnfaaGreat
end

section
namespace Go.Proofs.YtplpbbdakihnfaaGreat
open Go.RowKit
def told (l : List Item) (bs : List Bool) : List Bool := l.foldl (fun bs x => fadd bs (places 256 3 x.key.data.toList)) bs
def Sto.open_ (D : Dev) (first : Int) (n : Nat) : Sto :=
  { losses := D.losses, first := first, fs := (List.range n).map fun (i : Nat) => told (({ losses := D.losses, first := first, fs := [] } : Sto).lL D (i : Int)) (List.replicate 256 false) }
theorem told_take {l : List Item} {k : Nat} {x : Item} (hx : l[k]? = some x) (bs : List Bool) : told (l.take (k + 1)) bs = fadd (told (l.take k) bs) (places 256 3 x.key.data.toList) := by
  unfold told
  rw [List.take_add_one, hx, List.foldl_append]; rfl
def ptrs (ps : List (Nat × Nat)) : List Value := ps.map fun p => Value.pointer (some ⟨p.1, 0, none⟩)
theorem ti_pf : TI Tryz.prog tPF (.pointer none) 1 8 := (by kernel_rfl : (Tryz.prog.info? tPF).map (fun i => (i.zero, i.size, i.bytes)) = some (some (.pointer none), 1, 8))
set_option maxRecDepth 100000 in
set_option maxHeartbeats 1000000 in
theorem open_calls {N : Nat} {w : World} {h : DevH} {D : Dev} (hd : DevN N w h D) (first pages : Nat) (hp : 1 ≤ pages) (hp2 : pages ≤ 256) (hfit : first + pages ≤ D.n) (hoff : D.off = false)
    (he : ∀ i : Nat, i < pages → ({ losses := D.losses, first := first, fs := [] } : Sto).lE D i = 0) :
    Calls Tryz.prog 38 #[.pointer (some ⟨h.d, 0, none⟩), .int .i64 first, .int .i64 pages] w fun e w' => ∃ t : StoH, e = .returned (.tuple #[.pointer (some ⟨t.s, 0, none⟩), .int .i64 0]) ∧
      DevN N w' h D ∧ StoAt w' h t (Sto.open_ D first pages) ∧ Chg h.foot w w' ∧ (∀ p ∈ t.ps, w.heap.size ≤ p.2) := by
  have HP := fun W => Lib.hid (fun hc : Chg No w W => pages_calls (hd.chgNo hc))
  have HPO := fun W => Lib.hid (fun hc : Chg No w W => power_calls (hd.chgNo hc))
  rw [hoff] at HPO
  have HLO := fun W => Lib.hid (fun hc : Chg No w W => losses_calls (hd.chgNo hc))
  have hm := hd.nmost
  obtain ⟨n, hnn⟩ : ∃ n, n = D.n := ⟨_, rfl⟩
  rw [← hnn] at HP hfit hm
  have HD := Lib.hid hd
  have HE := Lib.hid he
  have q1 : ¬ (first : Int) < 0 := by omega
  have q2 : ¬ (pages : Int) < 1 := by omega
  have q3 : ¬ (256 : Int) < pages := by omega
  have q4 : ¬ (n : Int) < first := by omega
  have q5 : ¬ (n : Int) - first < pages := by omega
  have q6 : IntKind.i64.wrap ((n : Int) - (first : Int)) = (n : Int) - (first : Int) := IntWalk.i64_in _ (by omega)
  have b1 : decide ((first : Int) < 0) = false := by simp
  have b2 : decide ((pages : Int) < 1) = false := by simp; omega
  have b3 : decide ((256 : Int) < pages) = false := by simp; omega
  have b4 : decide ((n : Int) < first) = false := by simp; omega
  have b5 : decide ((n : Int) - first < pages) = false := by simp; omega
  clear hd he hnn hoff
  go_enter Tryz.func38, Tryz.ntmps38
  go_wp2_with fail
  refine ((HP _).out (by (repeat (first | (with_reducible exact Chg.refl _ _) | (with_reducible assumption) | (with_reducible refine Chg.drewN ?_ _) | (with_reducible refine Chg.drew ?_) | (with_reducible refine Chg.alloc ?_ _) | (with_reducible refine Chg.setCell ?_ (by first | (left; simp [DevH.foot]; done) | (right; simp; done) | (right; simp; omega)) _))))).mono ?_
  rintro e w1 ⟨rfl, rfl⟩
  go_wp2_with fail
  refine ((HP _).out (by (repeat (first | (with_reducible exact Chg.refl _ _) | (with_reducible assumption) | (with_reducible refine Chg.drewN ?_ _) | (with_reducible refine Chg.drew ?_) | (with_reducible refine Chg.alloc ?_ _) | (with_reducible refine Chg.setCell ?_ (by first | (left; simp [DevH.foot]; done) | (right; simp; done) | (right; simp; omega)) _))))).mono ?_
  rintro e w1 ⟨rfl, rfl⟩
  go_wp2_with fail
  refine ((HPO _).out (by (repeat (first | (with_reducible exact Chg.refl _ _) | (with_reducible assumption) | (with_reducible refine Chg.drewN ?_ _) | (with_reducible refine Chg.drew ?_) | (with_reducible refine Chg.alloc ?_ _) | (with_reducible refine Chg.setCell ?_ (by first | (left; simp [DevH.foot]; done) | (right; simp; done) | (right; simp; omega)) _))))).mono ?_
  rintro e w1 ⟨rfl, rfl⟩
  go_wp2_with fail
  refine ((HLO _).out (by (repeat (first | (with_reducible exact Chg.refl _ _) | (with_reducible assumption) | (with_reducible refine Chg.drewN ?_ _) | (with_reducible refine Chg.drew ?_) | (with_reducible refine Chg.alloc ?_ _) | (with_reducible refine Chg.setCell ?_ (by first | (left; simp [DevH.foot]; done) | (right; simp; done) | (right; simp; omega)) _))))).mono ?_
  rintro e w1 ⟨rfl, rfl⟩
  go_wp2
  obtain ⟨B0, hB0⟩ : ∃ B0 : Sto, B0 = { losses := D.losses, first := first, fs := [] } := ⟨_, rfl⟩
  have HB0 := Lib.hid hB0
  have HS0 : Hid (Blk (w.alloc (.cells #[.pointer (some ⟨h.d, 0, none⟩), .int .i64 D.losses, .int .i64 first, .slice none 0 0] tStore)) w.heap.size tStore #[.pointer (some ⟨h.d, 0, none⟩), .int .i64 D.losses, .int .i64 first, .slice none 0 0]) := Blk.new _ _ _
  have HE0 : Hid (∀ i : Nat, i < pages → B0.lE D i = 0) := by show ∀ i : Nat, i < pages → B0.lE D i = 0; rw [hB0]; exact HE.out
  have HOP : Hid (Sto.open_ D first pages = { losses := D.losses, first := first, fs := (List.range pages).map fun (i : Nat) => told (B0.lL D (i : Int)) (List.replicate 256 false) }) := by show _ = _; rw [hB0]; rfl
  have HLI := fun (i : Nat) (hi : i ≤ 256) (W : World) (vf : Value) => Lib.hid (fun (hdv : DevN N W h D) (hb : Blk W w.heap.size tStore #[.pointer (some ⟨h.d, 0, none⟩), .int .i64 D.losses, .int .i64 first, vf]) =>
    blist0_calls (B := B0) hdv (by rw [hB0]; exact hb) (by rw [hB0]; exact ⟨by omega, by show (first : Int) ≤ 4096; omega⟩) i hi)
  clear hB0 HE
  go_loopg [52] pages (fun g v52 wr => ∃ (k : Nat) (vf : Value) (ps : List (Nat × Nat)), v52 = .int .i64 k ∧ k ≤ pages ∧ pages - k = g ∧
    Hid (Blk wr w.heap.size tStore #[.pointer (some ⟨h.d, 0, none⟩), .int .i64 D.losses, .int .i64 first, vf] ∧ wr.ownsRow (w.heap.size + 1) tPF 1 vf k (ptrs ps) ∧ ps.length = k ∧
      (∀ (j : Nat) (p : Nat × Nat), ps[j]? = some p → Flt wr p.1 p.2 (told (B0.lL D (j : Int)) (List.replicate 256 false))) ∧ (ps.map (·.2)).Nodup ∧ (∀ p ∈ ps, w.heap.size < p.2) ∧ DevN N wr h D ∧ Chg h.foot w wr))
  case atStart => exact ⟨0, _, [], rfl, by omega, by omega, ⟨HS0.out, World.ownsRow_nil _ _ _ _, rfl, by simp, by simp, by simp, HD.out.chgNo (by (repeat (first | (with_reducible exact Chg.refl _ _) | (with_reducible assumption) | (with_reducible refine Chg.drewN ?_ _) | (with_reducible refine Chg.drew ?_) | (with_reducible refine Chg.alloc ?_ _) | (with_reducible refine Chg.setCell ?_ (by first | (left; simp [DevH.foot]; done) | (right; simp; done) | (right; simp; omega)) _)))), by (repeat (first | (with_reducible exact Chg.refl _ _) | (with_reducible assumption) | (with_reducible refine Chg.drewN ?_ _) | (with_reducible refine Chg.drew ?_) | (with_reducible refine Chg.alloc ?_ _) | (with_reducible refine Chg.setCell ?_ (by first | (left; simp [DevH.foot]; done) | (right; simp; done) | (right; simp; omega)) _)))⟩⟩
  case round =>
    obtain ⟨k, vf, ps, rfl, hk, hgn, H⟩ := hrel
    subst hgn
    obtain ⟨wo, hwo⟩ : ∃ wo, wo = wr := ⟨_, rfl⟩
    subst hwo
    by_cases h0 : k < pages
    · have hfr := bnew_calls wo
      have HFR := Lib.hid hfr
      clear hfr
      go_wp2_with fail
      refine HFR.out.mono ?_
      rintro e w2 ⟨p, q, rfl, hp1, hq1, hf2, hc2⟩
      have HF2 := Lib.hid hf2
      have HC2 := Lib.hid hc2
      have HLL := Lib.hid ((HLI k (by omega) w2 vf).out (H.out.2.2.2.2.2.2.1.chgNo hc2) (H.out.1.chg hc2 (fun h => h)))
      rw [HE0.out k h0] at HLL
      have hll := lL_le HD.out B0 k
      have hlg := lL_good B0 D k
      obtain ⟨l, hl⟩ : ∃ l, l = B0.lL D (k : Int) := ⟨_, rfl⟩
      rw [← hl] at HLL hll hlg
      have HLq := Lib.hid hl
      have HLG := Lib.hid hlg
      clear hf2 hc2 hl hlg
      go_wp2_with fail
      refine HLL.out.mono ?_
      rintro e w3 ⟨v3, rfl, ho3, hd3, hc3⟩
      obtain ⟨A3, c3, rfl, hnc3, hrd3⟩ := own_slice ho3
      have HRD3 := Lib.hid hrd3
      have HD3 := Lib.hid hd3
      have HC3 := Lib.hid hc3
      have HF3 := Lib.hid (HF2.out.chg hc3 (fun hf => by have := foot_lt HD.out hf; have := H.out.2.2.2.2.2.2.2.size; omega) (fun hf => by have := foot_lt HD.out hf; have := H.out.2.2.2.2.2.2.2.size; omega))
      clear ho3 hd3 hc3 hrd3
      go_wp2
      go_loopg [70] l.length (fun g v70 wx => ∃ m : Nat, v70 = .int .i64 m ∧ m ≤ l.length ∧ l.length - m = g ∧ Hid (Flt wx p q (told (l.take m) (List.replicate 256 false)) ∧ Chg (fun j => j = q) w3 wx))
      case atStart => exact ⟨0, rfl, by omega, by omega, ⟨by simpa [told] using HF3.out, Chg.refl _ _⟩⟩
      case round =>
        obtain ⟨m, rfl, hm, hgn, HX⟩ := hrel
        subst hgn
        by_cases h1 : m < l.length
        · obtain ⟨x, hx⟩ : ∃ x, l[m]? = some x := ⟨_, List.getElem?_eq_getElem h1⟩
          have hgx : x.good = true := List.all_eq_true.1 HLG.out x (List.mem_of_getElem? hx)
          simp only [Item.good, Bool.and_eq_true, decide_eq_true_eq] at hgx
          have hr1 := HRD3.out.chg HX.out.2 (by
            rintro g cur fz hg rfl
            have := HF3.out.bits
            unfold Blk at this
            rw [this] at hg
            cases hg)
          obtain ⟨g, off, rfl, hg, hc⟩ := hr1.at_ (j := m * 5) (by omega)
          have c0 := hc (m * 5 + 0) _ (its_get l m 0 x hx (by omega))
          have c1 := hc (m * 5 + 1) _ (its_get l m 1 x hx (by omega))
          have c2 := hc (m * 5 + 2) _ (its_get l m 2 x hx (by omega))
          have c3 := hc (m * 5 + 3) _ (its_get l m 3 x hx (by omega))
          have c4 := hc (m * 5 + 4) _ (its_get l m 4 x hx (by omega))
          simp only [itc, List.getElem_cons_zero, List.getElem_cons_succ, ← Nat.add_assoc, Nat.add_zero] at c0 c1 c2 c3 c4
          have HAA := fun W => Lib.hid (fun hc : Chg No wr W => badd_calls p q _ x.key W (HX.out.1.chg hc (fun h => h) (fun h => h)) (by omega))
          rw [← told_take hx] at HAA
          have HXX := Lib.hid hx
          clear hx hr1 hc hgx
          go_wp2_with fail
          refine ((HAA _).out (by (repeat (first | (with_reducible exact Chg.refl _ _) | (with_reducible assumption) | (with_reducible refine Chg.drewN ?_ _) | (with_reducible refine Chg.drew ?_) | (with_reducible refine Chg.alloc ?_ _) | (with_reducible refine Chg.setCell ?_ (by first | (left; simp [DevH.foot]; done) | (right; simp; done) | (right; simp; omega)) _))))).mono ?_
          rintro e w5 ⟨rfl, hf5, hc5⟩
          have HF5 := Lib.hid hf5
          have HC5 : Hid (Chg (fun j => j = q) w3 w5) := (HX.out.2.alloc _).trans hc5
          clear hf5 hc5
          go_wp2
          go_roundg (l.length - (m + 1))
          case measure => omega
          case rel => exact ⟨m + 1, rfl, by omega, rfl, HF5.out, HC5.out⟩
        · have e3 : m = l.length := by omega
          have hff := HX.out.1
          rw [e3, List.take_length] at hff
          have HFX := Lib.hid hff
          have hCX : Chg (fun j => h.foot j ∨ j = q) wo wr := ((HC2.out.mono (fun _ _ h => h.elim)).trans (HC3.out.mono (fun _ _ h => .inl h))).trans (HX.out.2.mono (fun _ _ h => .inr h))
          have HCX := Lib.hid hCX
          have hfoot : ∀ j, h.foot j → j < w.heap.size := fun j hj => foot_lt HD.out hj
          have HFO := Lib.hid hfoot
          have hws : w.heap.size < wo.heap.size := H.out.1.lt
          have hbs := H.out.1.chg hCX (by rintro (h | h); · have := hfoot _ h; omega
                                          · omega)
          have hox := own_chg H.out.2.1 hCX (by
            intro j hj hS
            have h1 := own_new H.out.2.1 j hj
            rcases hS with h | h
            · have := hfoot _ h; omega
            · have h2 := (H.out.2.1).lt j hj
              omega)
          have HBS := Lib.hid hbs
          have HOX := Lib.hid hox
          have b3 := hbs.cell 3
          simp at b3
          have hwx : w.heap.size < wr.heap.size := hbs.lt
          clear hff hCX hfoot hbs hox
          go_wp2_with (first
            | (at_builtin; go_loud (refine wpList_app _ rfl (.tmp 83) (.tmp 85) 121 rfl tPF Tryz.underlying121 ti_pf rfl (by omega) (w.heap.size + 1) _ k (ptrs ps) rfl (HOX.out.alloc _) tPF _ 1 1 (ptrs [(p, q)]) rfl (Rd.ofBlk (k := 1) (Blk.new _ _ _) (by simp)) (by simp [ptrs, Value.oneCell']) (by simp only [maxLen]; omega) (by omega) (by simp; omega) ?_); intro v2 w4 ho2 hg2 hb2; obtain ⟨A4, c4, rfl, hnc4, _⟩ := own_slice ho2; have HO4 := Lib.hid ho2; have HC4 : Hid (Chg (fun j => vf.ownBlock = some j) wr w4) := ((Chg.refl _ _).alloc _).grown hg2 (fun _ h => .inl h); have HB4 := Lib.hid (HBS.out.chg HC4.out (fun h => by have := own_new HOX.out _ h; omega)); have x3 := HB4.out.cell 3; simp at x3; have y3 := HB4.out.frozen 3; clear ho2 hg2 hb2))
          go_roundg (pages - (k + 1))
          case measure => omega
          case rel =>
            have hq4 := hq1
            have hp4 := hp1
            have hfx := HFX.out
            have n1 : ∀ {j : Nat} {cs : Array Value} {T : TypeId}, T ≠ tPF → Blk wr j T cs → vf.ownBlock ≠ some j := fun hT hb => own_other HOX.out hb hT
            have hch : Chg (fun j => vf.ownBlock = some j ∨ j = w.heap.size) wr (w4.setCell ⟨w.heap.size, 3, none⟩ (.slice A4 (k + 1) c4)) :=
              (HC4.out.mono (fun _ _ h => .inl h)).setCell (.inl (.inr rfl)) _
            have hcw : Chg (fun j => h.foot j ∨ j = q ∨ vf.ownBlock = some j ∨ j = w.heap.size) wo (w4.setCell ⟨w.heap.size, 3, none⟩ (.slice A4 (k + 1) c4)) :=
              (HCX.out.mono (fun _ _ h => by rcases h with h | h; · exact .inl h
                                             · exact .inr (.inl h))).trans (hch.mono (fun _ _ h => .inr (.inr h)))
            have hfin := devN_new HD.out HD3.out ((H.out.2.2.2.2.2.2.2.trans (HC2.out.mono (fun _ _ h => h.elim))).trans HC3.out) ((HX.out.2.mono (fun j _ e => (by subst e; omega : w.heap.size ≤ j))).trans (hch.mono (fun j _ hj => by
              rcases hj with hj | hj
              · have := own_new HOX.out j hj; omega
              · omega)))
            refine ⟨k + 1, .slice A4 (k + 1) c4, ps ++ [(p, q)], rfl, by omega, rfl, ?_, ?_, ?_, ?_, ?_, ?_, ?_, ?_⟩
            · have := HB4.out.set_ 3 (.slice A4 (k + 1) c4)
              simpa using this
            · have h1 := own_chg HO4.out (chg_setCell w4 ⟨w.heap.size, 3, none⟩ (.slice A4 (k + 1) c4)) (fun j hj e => by have := own_new HO4.out j hj; have e2 : j = w.heap.size := e; omega)
              have e : ptrs (ps ++ [(p, q)]) = ptrs ps ++ ptrs [(p, q)] := by simp [ptrs]
              rw [e]
              exact h1
            · simp [H.out.2.2.1]
            · intro j p' hj
              by_cases hjk : j < k
              · rw [List.getElem?_append_left (by rw [H.out.2.2.1]; exact hjk)] at hj
                have hf := H.out.2.2.2.1 j p' hj
                have hp2 := H.out.2.2.2.2.2.1 p' (List.mem_of_getElem? hj)
                have hl2 := hf.bits.lt
                have hl1 := hf.head.lt
                refine hf.chg hcw ?_ ?_
                · rintro (h | h | h | h)
                  · exact H.out.2.2.2.2.2.2.1.not_foot hf.head (by decide) (by decide) h
                  · omega
                  · exact own_other H.out.2.1 hf.head (by decide) h
                  · exact hf.head.ne_ H.out.1 (by decide) h
                · rintro (h | h | h | h)
                  · have := HFO.out _ h; omega
                  · omega
                  · exact own_other H.out.2.1 hf.bits (by decide) h
                  · omega
              · have hjl : j < (ps ++ [(p, q)]).length := (List.getElem?_eq_some_iff.1 hj).1
                have hjk2 : j = k := by simp [H.out.2.2.1] at hjl; omega
                subst hjk2
                rw [List.getElem?_append_right (by rw [H.out.2.2.1]; exact Nat.le_refl _), H.out.2.2.1, Nat.sub_self] at hj
                simp at hj
                subst hj
                rw [← HLq.out]
                refine hfx.chg hch ?_ ?_
                · rintro (h | h)
                  · exact n1 (by decide) hfx.head h
                  · exact hfx.head.ne_ HBS.out (by decide) h
                · rintro (h | h)
                  · exact n1 (by decide) hfx.bits h
                  · exact hfx.bits.ne_ HBS.out (by decide) h
            · rw [List.map_append, List.nodup_append]
              refine ⟨H.out.2.2.2.2.1, by simp, ?_⟩
              intro a ha b hb
              simp at hb
              subst hb
              obtain ⟨p', hp', rfl⟩ := List.mem_map.1 ha
              obtain ⟨j, hj⟩ := List.mem_iff_getElem?.1 hp'
              have := (H.out.2.2.2.1 j p' hj).bits.lt
              omega
            · intro p' hp'
              rcases List.mem_append.1 hp' with h | h
              · exact H.out.2.2.2.2.2.1 p' h
              · simp at h; subst h; show w.heap.size < q; omega
            · exact hfin.1
            · exact hfin.2
    · have e3 : k = pages := by omega
      subst e3
      go_wp2
      go_ret2
      rcases H.out.2.1.2 with ⟨rfl, h0⟩ | ⟨G, cap, cur, rfl, hbG, hgG, hncG, hcmG, hcsG, htkG⟩
      · omega
      · refine ⟨⟨w.heap.size, G, cap, ps⟩, rfl, H.out.2.2.2.2.2.2.1, ?_, H.out.2.2.2.2.2.2.2, fun p hp => Nat.le_of_lt (H.out.2.2.2.2.2.1 p hp)⟩
        rw [HOP.out]
        refine { box := by simpa using H.out.1, row := ⟨cur, hgG, ?_⟩, len := by simp [H.out.2.2.1], flt := ?_, apart := H.out.2.2.2.2.1, most := by simpa using hp2, fit := ⟨by show (0 : Int) ≤ first; omega, by show (first : Int) ≤ 4096; omega⟩ }
        · intro i p hp
          have h1 : (ptrs ps)[i]? = some (.pointer (some ⟨p.1, 0, none⟩)) := by simp [ptrs, hp]
          rw [← htkG, List.getElem?_take] at h1
          split at h1
          · simpa using h1
          · cases h1
        · intro i p bs hp hb
          have hil : i < ps.length := (List.getElem?_eq_some_iff.1 hp).1
          rw [H.out.2.2.1] at hil
          simp [hil] at hb
          subst hb
          exact H.out.2.2.2.1 i p hp
end Go.Proofs.YtplpbbdakihnfaaGreat
end

section
namespace Go.Proofs.YtplpbbdakihnfaaGreat
open Go.RowKit
theorem step_call2 {P : Program} (w : World) {ops : Array Oper} {o : Oper} {a : Act} {K : Act → World → Prop} {Q : Exit → Act → World → Prop} {E : Prop} (hgd : o.guard = none) (f : FuncId) (x y : Operand) (tys : Array TypeId)
    (ho : o.op = .call { callee := .value (.func f), args := #[x, y], argTypes := tys }) (u v : Value) (hx : a.eval x = u) (hy : a.eval y = v) (hcf : (callFunc f #[u, v]).run P w = .ok (.enter f #[u, v]) w) {post : Ending → World → Prop} (hc : Calls P f #[u, v] w post)
    (h : ∀ e w', post e w' → ∃ r, e = .returned r ∧ K (a.put o.dst r) w') : if Region.wanted o (yielded ops a.tmps) = true then Oper.wp P o a w K Q else E := by
  have hw : Region.wanted o (yielded ops a.tmps) = true := by simp [Region.wanted, hgd]
  rw [if_pos hw]
  have hf : a.eval (.func f) = .func (.func f) #[] #[] := rfl
  unfold Oper.wp execOp
  simp only [ho, resolve, invoke, hf, hx, hy, Deferred.ofValue, Sem.run_bind, Sem.run_pure, Result.andThen_ok, List.map_toArray, List.map_cons, List.map_nil, Array.append_empty]
  have hcc : Calls P f #[u, v] w fun e w' => match e, w' with
      | .returned v, w'' => K (a.put o.dst v) w''
      | .panicked chain, w'' => Q (.panic chain) a w''
      | .outgrown, _ => LetsOut Q := by
    refine hc.mono ?_
    intro e w' hp
    obtain ⟨r, rfl, hk⟩ := h e w' hp
    exact hk
  rw [show (#[] ++ #[u, v] : Array Value) = #[u, v] from by simp, hcf]
  exact hcc
theorem callf_load (u v : Value) (w : World) : (callFunc 69 #[u, v]).run Tryz.prog w = .ok (.enter 69 #[u, v]) w := by kernel_rfl
end Go.Proofs.YtplpbbdakihnfaaGreat
end
