/- The bucket store in memory; list, of. -/
import Derived.Test.YtinofdfjaopdcaaBloom
import Derived.Test.YtinofdfjaopdcaaLay
import Derived.Test.YtinofdfjaopdcaaClone
import Derived.Test.YtinofdfjaopdcaaFlashD
namespace Go.Proofs.Ytinofdfjaopdcaa
open Go.RowKit
set_option linter.unusedSimpArgs false
set_option linter.unusedVariables false

abbrev tStore : TypeId := 105
abbrev tPF : TypeId := 106

/-- a store's own: the losses and the first page that it knows, its filters -/
structure Sto where
  losses : Int
  first : Int
  fs : List (List Bool)
namespace Sto
def no (B : Sto) (key : ByteArray) : Nat := khash key.data.toList % B.fs.length
/-- what list answers -/
def lE (B : Sto) (D : Dev) (i : Int) : Int := if B.losses = D.losses then (if D.readE (B.first + i) = 0 ∨ D.readE (B.first + i) = 5 ∨ D.readE (B.first + i) = 6 then 0 else D.readE (B.first + i)) else 4
def lL (B : Sto) (D : Dev) (i : Int) : List Item := if B.losses = D.losses ∧ D.readE (B.first + i) = 0 then listL (D.read (B.first + i)) else []
end Sto

/-- where a store lies: its struct, its filters' row, each filter's struct and bits -/
structure StoH where
  s : Nat
  G : Nat
  cap : Nat
  ps : List (Nat × Nat)
structure StoAt (w : World) (h : DevH) (t : StoH) (B : Sto) : Prop where
  box : Blk w t.s tStore #[.pointer (some ⟨h.d, 0, none⟩), .int .i64 B.losses, .int .i64 B.first, .slice (some ⟨t.G, 0, none⟩) B.fs.length t.cap]
  row : ∃ cur : Array Value, Blk w t.G tPF cur ∧ ∀ (i : Nat) (p : Nat × Nat), t.ps[i]? = some p → cur[i]? = some (Value.pointer (some ⟨p.1, 0, none⟩))
  len : t.ps.length = B.fs.length
  flt : ∀ (i : Nat) (p : Nat × Nat) (bs : List Bool), t.ps[i]? = some p → B.fs[i]? = some bs → Flt w p.1 p.2 bs
  apart : (t.ps.map (·.2)).Nodup
  most : B.fs.length ≤ 256
  fit : 0 ≤ B.first ∧ B.first ≤ 4096

theorem StoAt.chg {S : Nat → Prop} {w w' : World} {h : DevH} {t : StoH} {B : Sto} (hs : StoAt w h t B) (hc : Chg S w w')
    (hn : ∀ g cs T, (T = tStore ∨ T = tPF ∨ T = tFilter ∨ T = tBool) → Blk w g T cs → ¬ S g) : StoAt w' h t B :=
  { hs with
    box := hs.box.chg hc (hn _ _ _ (.inl rfl) hs.box)
    row := by obtain ⟨cur, h1, h2⟩ := hs.row; exact ⟨cur, h1.chg hc (hn _ _ _ (.inr (.inl rfl)) h1), h2⟩
    flt := fun i p bs hp hb => by
      have hf := hs.flt i p bs hp hb
      exact hf.chg hc (hn _ _ _ (.inr (.inr (.inl rfl))) hf.head) (hn _ _ _ (.inr (.inr (.inr rfl))) hf.bits) }
theorem StoAt.chgNo {w w' : World} {h : DevH} {t : StoH} {B : Sto} (hs : StoAt w h t B) (hc : Chg No w w') : StoAt w' h t B := hs.chg hc (fun _ _ _ _ _ h => h)
theorem StoAt.foot {N : Nat} {w w' : World} {h : DevH} {D : Dev} {t : StoH} {B : Sto} (hs : StoAt w h t B) (hd : DevN N w h D) (hc : Chg h.foot w w') : StoAt w' h t B :=
  hs.chg hc (fun g cs T hT hb => hd.not_foot hb (by rcases hT with rfl | rfl | rfl | rfl <;> decide) (by rcases hT with rfl | rfl | rfl | rfl <;> decide))

set_option maxRecDepth 100000 in
theorem of_calls {w : World} {h : DevH} {t : StoH} {B : Sto} (hs : StoAt w h t B) (hp : 0 < B.fs.length) (key : ByteArray) (hk : key.size ≤ 140737488351232) :
    Calls Try.prog 67 #[.pointer (some ⟨t.s, 0, none⟩), .string key] w fun e w' => e = .returned (.int .i64 (B.no key)) ∧ Chg No w w' := by
  have c3 := hs.box.cell 3
  simp at c3
  have hl := hs.box.lt
  have hm := hs.most
  obtain ⟨n, hn⟩ : ∃ n, n = B.fs.length := ⟨_, rfl⟩
  obtain ⟨z, hz⟩ : ∃ z, z = khash key.data.toList := ⟨_, rfl⟩
  have hzl : z < 18446744073709551616 := by rw [hz]; exact khash_lt _
  have HN : Hid (B.no key = z % n) := by show _ = _; rw [hn, hz]; rfl
  have hh := fun W => Lib.hid (hash_calls key W hk)
  rw [← hz] at hh
  rw [← hn] at c3 hp hm
  have hzn : z % n < n := Nat.mod_lt _ hp
  have hnz : ((n : Int) == 0) = false := by simp; omega
  have hwn : IntKind.u64.wrap (n : Int) = n := wraps_u64 _ (by omega) (by omega)
  have hwz : IntKind.i64.wrap ((z : Int) % (n : Int)) = (z : Int) % (n : Int) := IntWalk.i64_in _ (by omega)
  clear hn hz
  go_enter Try.func67, Try.ntmps67
  go_wp2_with fail
  go_quiet ((first | (go_at_call 91; exact quiet_left (hh _).out)))
  go_wp2
  go_ret
  refine ⟨?_, (Chg.refl _ _).drewN _⟩
  rw [HN.out]
  simp

theorem read_le {D : Dev} {N : Nat} {w : World} {h : DevH} (hd : DevN N w h D) (k : Int) : (D.read k).length ≤ 384 := by
  unfold Dev.read
  split
  · split
    · simp
    · rename_i h1 h2
      unfold Dev.page
      have hk : 0 ≤ k ∧ k < D.n := by simpa [Dev.has] using h1
      cases hw : D.wt k.toNat with
      | some pg =>
        obtain ⟨es, _, h3, h4⟩ := hd.map
        obtain ⟨v, hv⟩ := h4 _ _ hw
        obtain ⟨i, pg', e1, e2, e3, e4⟩ := h3 _ _ (aget_mem hv)
        have : i = k.toNat := by omega
        subst this
        rw [hw] at e3
        injection e3 with e3
        subst e3
        cases pg with
        | full b => obtain ⟨p, q, _, _, _, _, _, hl⟩ := e4; simp [Pg.data, hl]
        | _ => simp [Pg.data]
      | none =>
        obtain ⟨ps, _, h3, h4⟩ := hd.row
        have hlt : k.toNat < ps.length := by omega
        have := h4 k.toNat _ (List.getElem?_eq_getElem hlt)
        simp only [Option.getD_none]
        cases hf : D.fl k.toNat with
        | full b => rw [hf] at this; obtain ⟨p, q, _, _, _, _, _, hl⟩ := this; simp [Pg.data, hl]
        | _ => simp [Pg.data]
  · simp

theorem readE_in (D : Dev) (k : Int) : D.readE k = 0 ∨ D.readE k = 1 ∨ D.readE k = 4 ∨ D.readE k = 5 ∨ D.readE k = 6 := by
  unfold Dev.readE
  split
  · split
    · simp
    · cases D.page k.toNat <;> simp [Pg.err]
  · simp

set_option maxRecDepth 100000 in
theorem blist0_calls {N : Nat} {w : World} {h : DevH} {D : Dev} {s : Nat} {vf : Value} {B : Sto} (hd : DevN N w h D) (hs : Blk w s tStore #[.pointer (some ⟨h.d, 0, none⟩), .int .i64 B.losses, .int .i64 B.first, vf]) (hfit : 0 ≤ B.first ∧ B.first ≤ 4096) (i : Nat) (hi : i ≤ 256) :
    Calls Try.prog 63 #[.pointer (some ⟨s, 0, none⟩), .int .i64 i] w fun e w' => ∃ v, e = .returned (.tuple #[v, .int .i64 (B.lE D i)]) ∧ w'.ownsRow w.heap.size tItem 5 v (B.lL D i).length (its (B.lL D i)) ∧ DevN N w' h D ∧ Chg h.foot w w' := by
  have c0 := hs.cell 0
  have c1 := hs.cell 1
  have c2 := hs.cell 2
  simp at c0 c1 c2
  have hl := hs.lt
  have HL := fun W => Lib.hid (fun hc : Chg No w W => losses_calls (hd.chgNo hc))
  have HR := fun W => Lib.hid (fun hc : Chg No w W => read_calls (hd.chgNo hc) (B.first + i))
  obtain ⟨hf1, hf2⟩ := hfit
  have HD := Lib.hid hd
  have HS := Lib.hid hs
  clear hd hs
  by_cases hlo : B.losses = D.losses
  · have hne : (B.losses != D.losses) = false := by simp [hlo]
    have hadd : IntKind.i64.wrap (B.first + (i : Int)) = B.first + (i : Int) := IntWalk.i64_in _ (by omega)
    have HLO := Lib.hid hlo
    clear hlo
    go_enter Try.func63, Try.ntmps63
    go_wp2_with fail
    go_quiet ((first | (go_at_call 61; exact quiet_left ((HL _).out (by (repeat (first | (with_reducible exact Chg.refl _ _) | (with_reducible assumption) | (with_reducible refine Chg.drewN ?_ _) | (with_reducible refine Chg.drew ?_) | (with_reducible refine Chg.alloc ?_ _) | (with_reducible refine Chg.setCell ?_ (by first | (left; simp [DevH.foot]; done) | (right; simp; done) | (right; simp; omega)) _))))))))
    go_wp2_with fail
    go_region_held3 (fun w' => w'.cell? ⟨s, 0, none⟩ = some (.pointer (some ⟨h.d, 0, none⟩)) ∧ w'.cell? ⟨s, 2, none⟩ = some (.int .i64 B.first)) (first | go_keep)
      ((go_at_call 22
        refine ((HR _).out (by (repeat (first | (with_reducible exact Chg.refl _ _) | (with_reducible assumption) | (with_reducible refine Chg.drewN ?_ _) | (with_reducible refine Chg.drew ?_) | (with_reducible refine Chg.alloc ?_ _) | (with_reducible refine Chg.setCell ?_ (by first | (left; simp [DevH.foot]; done) | (right; simp; done) | (right; simp; omega)) _))))).mono ?_
        rintro e w1 ⟨v, rfl, ho1, hd1, hc1⟩
        have HO1 := Lib.hid ho1
        have HD1 := Lib.hid hd1
        have HC1 := Lib.hid hc1
        have HS1 := Lib.hid (HS.out.chg ((by (repeat (first | (with_reducible exact Chg.refl _ _) | (with_reducible assumption) | (with_reducible refine Chg.drewN ?_ _) | (with_reducible refine Chg.drew ?_) | (with_reducible refine Chg.alloc ?_ _) | (with_reducible refine Chg.setCell ?_ (by first | (left; simp [DevH.foot]; done) | (right; simp; done) | (right; simp; omega)) _))) : Chg h.foot w _).trans hc1) (HD.out.not_foot HS.out (by decide) (by decide)))
        clear ho1 hd1 hc1
        have c01 := HS1.out.cell 0
        have c21 := HS1.out.cell 2
        simp at c01 c21))
    have HRL := read_le HD.out (B.first + (i : Int))
    obtain ⟨A, c, rfl, hnc, hrd⟩ := own_slice HO1.out
    have HCC : Hid (Chg h.foot w w1) := (((Chg.refl _ _).drewN _).trans HC1.out)
    have hsz : w.heap.size ≤ w1.heap.size := HCC.out.size
    have HRD := Lib.hid hrd
    clear hrd
    obtain ⟨z, hz⟩ : ∃ z, z = D.readE (B.first + (i : Int)) := ⟨_, rfl⟩
    have hzi := readE_in D (B.first + (i : Int))
    have HZ := Lib.hid hz
    rw [← hz] at hzi ⊢
    clear hz
    have HE : Hid (B.lE D i = if z = 0 ∨ z = 5 ∨ z = 6 then 0 else z) := by
      show _ = _
      unfold Sto.lE
      rw [if_pos HLO.out, ← HZ.out]
    have HLL : Hid (B.lL D i = if z = 0 then listL (D.read (B.first + i)) else []) := by
      show _ = _
      unfold Sto.lL
      rw [← HZ.out]
      simp [HLO.out]
    rcases hzi with rfl | rfl | rfl | rfl | rfl
    · have HT := Lib.hid (list_calls A _ c (D.read (B.first + (i : Int))) w1 (by simpa using HRD.out) (by omega) hnc)
      go_wp2_with fail
      refine HT.out.mono ?_
      rintro e w2 ⟨v2, rfl, ho2, hc2⟩
      have HO2 := Lib.hid ho2
      have HC2 := Lib.hid hc2
      clear ho2 hc2
      go_wp2
      go_ret2
      refine ⟨_, by rw [HE.out]; rfl, ?_, HD1.out.chgNo HC2.out, HCC.out.trans (HC2.out.mono (fun _ _ h => h.elim))⟩
      have hx : B.lL D i = listL (D.read (B.first + (i : Int))) := by rw [HLL.out]; simp
      rw [hx]
      exact own_base HO2.out hsz
    all_goals
      go_wp2
      go_ret2
      refine ⟨_, by rw [HE.out]; rfl, ?_, HD1.out, HCC.out⟩
      have hx : B.lL D i = [] := by rw [HLL.out]; simp
      rw [hx]
      exact World.ownsRow_nil _ _ _ _
  · have hne : (B.losses != D.losses) = true := by simp [hlo]
    have HE : Hid (B.lE D i = 4 ∧ B.lL D i = []) := by
      refine ⟨by unfold Sto.lE; rw [if_neg hlo], by unfold Sto.lL; simp [hlo]⟩
    clear hlo
    go_enter Try.func63, Try.ntmps63
    go_wp2_with fail
    go_quiet ((first | (go_at_call 61; exact quiet_left ((HL _).out (by (repeat (first | (with_reducible exact Chg.refl _ _) | (with_reducible assumption) | (with_reducible refine Chg.drewN ?_ _) | (with_reducible refine Chg.drew ?_) | (with_reducible refine Chg.alloc ?_ _) | (with_reducible refine Chg.setCell ?_ (by first | (left; simp [DevH.foot]; done) | (right; simp; done) | (right; simp; omega)) _))))))))
    go_wp2
    go_ret2
    refine ⟨_, by rw [HE.out.1]; rfl, ?_, HD.out.chgNo (by (repeat (first | (with_reducible exact Chg.refl _ _) | (with_reducible assumption) | (with_reducible refine Chg.drewN ?_ _) | (with_reducible refine Chg.drew ?_) | (with_reducible refine Chg.alloc ?_ _) | (with_reducible refine Chg.setCell ?_ (by first | (left; simp [DevH.foot]; done) | (right; simp; done) | (right; simp; omega)) _)))), by (repeat (first | (with_reducible exact Chg.refl _ _) | (with_reducible assumption) | (with_reducible refine Chg.drewN ?_ _) | (with_reducible refine Chg.drew ?_) | (with_reducible refine Chg.alloc ?_ _) | (with_reducible refine Chg.setCell ?_ (by first | (left; simp [DevH.foot]; done) | (right; simp; done) | (right; simp; omega)) _)))⟩
    rw [HE.out.2]
    exact World.ownsRow_nil _ _ _ _

theorem blist_calls {N : Nat} {w : World} {h : DevH} {D : Dev} {t : StoH} {B : Sto} (hd : DevN N w h D) (hs : StoAt w h t B) (i : Nat) (hi : i ≤ 256) :
    Calls Try.prog 63 #[.pointer (some ⟨t.s, 0, none⟩), .int .i64 i] w fun e w' => ∃ v, e = .returned (.tuple #[v, .int .i64 (B.lE D i)]) ∧ w'.ownsRow w.heap.size tItem 5 v (B.lL D i).length (its (B.lL D i)) ∧ DevN N w' h D ∧ Chg h.foot w w' :=
  blist0_calls hd hs.box hs.fit i hi
end Go.Proofs.Ytinofdfjaopdcaa
