/- Packed texts: RegN, ImgL, ImgM. -/
import Derived.Test.YtplpbbdakihnfaaGreatPk17
import Derived.Test.YtplpbbdakihnfaaGreatPk18
import Derived.Test.YtplpbbdakihnfaaGreatPk05

/- region.Open, walked: its first half. -/
section
namespace Go.Proofs.YtplpbbdakihnfaaGreat
open Go.RowKit
open Go.ChangeMaps (setBlock)
attribute [local go_sem ↓] Go.wp_at_zero Go.wp_at_succ
set_option linter.unusedSimpArgs false
set_option linter.unusedVariables false

theorem ti_seal : TI Tryz.prog tSeal (.agg #[.int .u64 0, .slice none 0 0]) 2 32 := (by kernel_rfl : (Tryz.prog.info? tSeal).map (fun i => (i.zero, i.size, i.bytes)) = some (some (.agg #[.int .u64 0, .slice none 0 0]), 2, 32))

theorem gopen_bad {N : Nat} {w : World} {h : DevH} {D : Dev} (hd : DevN N w h D) (first n : Nat) (hn : 1 ≤ n) (hm : n ≤ 64) (hf : first ≤ D.n) (hb : D.n < first + 4 * n) :
    Calls Tryz.prog 39 #[.pointer (some ⟨h.d, 0, none⟩), .int .i64 first, .int .i64 n] w fun e w' => e = .returned (.tuple #[.pointer none, .int .i64 1]) ∧ Chg No w w' := by
  have HP := Lib.hid (pages_calls hd)
  have hnm := hd.nmost
  obtain ⟨dn, hdn⟩ : ∃ dn, dn = D.n := ⟨_, rfl⟩
  rw [← hdn] at HP hf hb hnm
  clear hd hdn
  have e1 : IntKind.i64.wrap (4 * (n : Int)) = 4 * (n : Int) := IntWalk.i64_in _ (by omega)
  have e2 : IntKind.i64.wrap ((dn : Int) - (first : Int)) = (dn : Int) - (first : Int) := IntWalk.i64_in _ (by omega)
  have b1 : decide ((first : Int) < 0) = false := decide_eq_false (by omega)
  have b2 : decide ((n : Int) < 1) = false := decide_eq_false (by omega)
  have b3 : decide ((64 : Int) < (n : Int)) = false := decide_eq_false (by omega)
  have b4 : decide ((dn : Int) < (first : Int)) = false := decide_eq_false (by omega)
  have b4' : ¬ dn < first := by omega
  have b5 : decide ((dn : Int) - (first : Int) < 4 * (n : Int)) = true := decide_eq_true (by omega)
  go_enter Tryz.func39, Tryz.ntmps39
  go_wp2_with (first | (go_at_call 33; refine HP.out.mono ?_; rintro e w' ⟨rfl, rfl⟩))
  go_ret2
  exact ⟨rfl, by (repeat (first | (with_reducible exact Chg.refl _ _) | (with_reducible assumption) | (with_reducible refine Chg.drewN ?_ _) | (with_reducible refine Chg.drew ?_) | (with_reducible refine Chg.alloc ?_ _) | (with_reducible refine Chg.setCell ?_ (by first | (left; simp [DevH.foot]; done) | (right; simp; done) | (right; simp; omega)) _)))⟩

def opTopT (D : Dev) (first i : Nat) : Nat := (List.range i).foldl (fun m i => ldTop (D.rpg first i) m 4) 0
theorem opTopT_succ (D : Dev) (first i : Nat) : opTopT D first (i + 1) = ldTop (D.rpg first i) (opTopT D first i) 4 := by unfold opTopT; rw [List.range_succ, List.foldl_append]; rfl
theorem opTopT_lt (D : Dev) (first i : Nat) : opTopT D first i < 18446744073709551616 := by
  induction i with
  | zero => simp [opTopT]
  | succ i ih => rw [opTopT_succ]; exact ldTop_lt _ _ ih 4
theorem opRegs_succ (D : Dev) (first i : Nat) : opRegs D first (i + 1) = opRegs D first i ++ [ldS (D.rpg first i)] := by unfold opRegs; rw [List.range_succ, List.map_append]; rfl
theorem opRegs_len (D : Dev) (first i : Nat) : (opRegs D first i).length = i := by simp [opRegs]
theorem ldS_ok (P : Nat → Pg) : (ldS P).l.length ≤ 1000 ∧ (ldS P).num < 18446744073709551616 := by
  unfold ldS
  cases hl : listOf (ldB P 4) with
  | none => exact ⟨by simp [Sealed.no], by simp [Sealed.no]⟩
  | some l =>
    have h1 := listOf_len hl
    have h2 := ldB_le P 4
    simp only
    split
    · exact ⟨by simp only; omega, pg_rn_lt _ _⟩
    · exact ⟨by simp [Sealed.no], by simp [Sealed.no]⟩

/-- while regions are read -/
structure OpMid (w : World) (h : DevH) (D : Dev) (N first M L i : Nat) (R : Value) (wr : World) : Prop where
  box : Blk wr L tLog (openBox h D.losses first R (opTopT D first i) M)
  regs : ∃ ses : List (Nat × Value), ses.length = i ∧ wr.ownsRow w.heap.size tSeal 2 R i (secs ses) ∧ ∀ (j : Nat) (S : Sealed), (opRegs D first i)[j]? = some S → ∃ v, ses[j]? = some (S.num, v) ∧ wr.ownsRow w.heap.size tItem 5 v S.l.length (its S.l)
  map : MapIs skey wr M (amap plv ([] : Keys))
  dev : DevN N wr h D
  chg : Chg h.foot w wr
  far : M ≠ h.M

theorem rd_two (w : World) (t : TypeId) (a b : Value) : Rd (w.alloc (.cells #[a, b] t)) t (some ⟨w.heap.size, 0, none⟩) (1 * 2) [a, b] := by
  have := Rd.ofBlk (k := 2) (Blk.new w t #[a, b]) (by simp)
  simpa using this
theorem own_no_foot {N : Nat} {w : World} {h : DevH} {D : Dev} (hd : DevN N w h D) {base size n : Nat} {e : TypeId} {v : Value} {xs : List Value} (ho : w.ownsRow base e size v n xs) (h1 : e ≠ tDev) (h2 : e ≠ tPP) : ∀ k, v.ownBlock = some k → ¬ h.foot k := own_foot hd ho h1 h2
/-- the regions so far in another world -/
theorem OpMid.rows {w wr w1 : World} {h : DevH} {D : Dev} {N first M L i : Nat} {R : Value} {S : Nat → Prop} (H : OpMid w h D N first M L i R wr) (hc : Chg S wr w1) (h1 : ∀ k cs T fz, wr.heap[k]? = some (.cells cs T fz) → T = tSeal ∨ T = tItem → ¬ S k) :
    ∃ ses : List (Nat × Value), ses.length = i ∧ w1.ownsRow w.heap.size tSeal 2 R i (secs ses) ∧ ∀ (j : Nat) (S : Sealed), (opRegs D first i)[j]? = some S → ∃ v, ses[j]? = some (S.num, v) ∧ w1.ownsRow w.heap.size tItem 5 v S.l.length (its S.l) := by
  obtain ⟨ses, e1, e2, e3⟩ := H.regs
  refine ⟨ses, e1, own_chg e2 hc (fun k hk => by obtain ⟨cs, hg⟩ := own_cells_at e2 hk; exact h1 k _ _ _ hg (.inl rfl)), fun j S hS => ?_⟩
  obtain ⟨v, e4, e5⟩ := e3 j S hS
  exact ⟨v, e4, own_chg e5 hc (fun k hk => by obtain ⟨cs, hg⟩ := own_cells_at e5 hk; exact h1 k _ _ _ hg (.inr rfl))⟩

theorem OpMid.next {N : Nat} {w wr w1 w9 : World} {h : DevH} {D : Dev} {first M L i : Nat} {Ar A9 : Option Addr} {cr c9 b9 : Nat} {S : Sealed} {v : Value} {ses : List (Nat × Value)} (H : OpMid w h D N first M L i (.slice Ar i cr) wr)
    (hS : opRegs D first (i + 1) = opRegs D first i ++ [S]) (hM : w.heap.size ≤ M) (hML : M < wr.heap.size) (hLz : w.heap.size ≤ L)
    (hc1 : Chg (fun k => h.foot k ∨ k = L) wr w1) (hd1 : DevN N w1 h D) (hb1 : Blk w1 L tLog (openBox h D.losses first (.slice Ar i cr) (opTopT D first (i + 1)) M)) (hov : w1.ownsRow b9 tItem 5 v S.l.length (its S.l)) (hb9 : wr.heap.size ≤ b9)
    (hs9 : ses.length = i ∧ w1.ownsRow w.heap.size tSeal 2 (.slice Ar i cr) i (secs ses) ∧ ∀ (j : Nat) (S : Sealed), (opRegs D first i)[j]? = some S → ∃ v, ses[j]? = some (S.num, v) ∧ w1.ownsRow w.heap.size tItem 5 v S.l.length (its S.l))
    (ho9 : w9.ownsRow w.heap.size tSeal 2 (.slice A9 (i + 1) c9) (i + 1) (secs ses ++ [.int .u64 S.num, v])) (hg9 : Chg (fun k => (Value.slice Ar i cr).ownBlock = some k) w1 w9) :
    OpMid w h D N first M L (i + 1) (.slice A9 (i + 1) c9) (w9.setCell ⟨L, 3, none⟩ (.slice A9 (i + 1) c9)) := by
  have hc : Chg (fun k => k = L) w9 (w9.setCell ⟨L, 3, none⟩ (.slice A9 (i + 1) c9)) := Chg.setCell (S := fun k => k = L) (Chg.refl _ _) (.inl rfl) _
  obtain ⟨g1, g2, g3⟩ := hs9
  have hbox9 := hb1.chg hg9 (fun e => own_other g2 hb1 (by decide) e)
  have hit : ∀ {b n : Nat} {v : Value} {xs : List Value}, w1.ownsRow b tItem 5 v n xs → (w9.setCell ⟨L, 3, none⟩ (.slice A9 (i + 1) c9)).ownsRow b tItem 5 v n xs := by
    intro b n v xs ho
    have h9 := own_chg ho hg9 (fun k hk e => own_ne ho g2 (by decide) k hk e)
    exact own_chg h9 hc (fun k hk e => by obtain ⟨cs, hg⟩ := own_cells_at h9 hk; subst e; have := hbox9; unfold Blk at this; rw [hg] at this; injection this with this; injection this with _ e2; exact absurd e2 (by decide))
  have hwz := H.chg.size
  have hd9 : DevN N w9 h D := dev_ty hd1 hg9 (fun k _ e => by obtain ⟨cs, hg⟩ := own_cells_at g2 e; exact ⟨cs, tSeal, _, hg, by decide, by decide, by decide, by decide⟩)
  refine ⟨?_, ?_, ?_, ?_, ?_, H.far⟩
  · have := hbox9.set_ 3 (.slice A9 (i + 1) c9)
    simpa [openBox] using this
  · refine ⟨ses ++ [(S.num, v)], by simp [g1], ?_, ?_⟩
    · have e : secs (ses ++ [(S.num, v)]) = secs ses ++ [.int .u64 S.num, v] := by rw [secs_append]; rfl
      rw [e]
      exact own_chg ho9 hc (fun k hk e => by obtain ⟨cs, hg⟩ := own_cells_at ho9 hk; subst e; have := hbox9; unfold Blk at this; rw [hg] at this; injection this with this; injection this with _ e2; exact absurd e2 (by decide))
    · intro j S' hS'
      rw [hS] at hS'
      have hlen := opRegs_len D first i
      by_cases hj : j < i
      · rw [List.getElem?_append_left (by omega)] at hS'
        obtain ⟨v', e1, e2⟩ := g3 j S' hS'
        exact ⟨v', by rw [List.getElem?_append_left (by omega)]; exact e1, hit e2⟩
      · have hj2 : j = i := by
          have := (List.getElem?_eq_some_iff.1 hS').1
          simp at this
          omega
        subst hj2
        rw [List.getElem?_append_right (by omega), hlen] at hS'
        simp at hS'
        subst hS'
        exact ⟨v, by rw [List.getElem?_append_right (by omega), g1]; simp, own_base (hit hov) (by omega)⟩
  · have hm1 := H.map.chg hc1 (by rintro (hf | he); exact (by rcases hf with hf | hf | hf; (obtain ⟨a, b, c, e', hb⟩ := H.dev.box; exact H.map.ne_blk hb hf); (obtain ⟨ps, hb, _⟩ := H.dev.row; exact H.map.ne_blk hb hf); exact H.far hf); exact H.map.ne_blk H.box he)
    have hm9 := hm1.chg hg9 (fun e => own_no_map (W := w1) hm1 g2 _ e rfl)
    exact hm9.chg hc (fun e => hm9.ne_blk hbox9 e)
  · exact dev_ty hd9 hc (fun k _ e => by subst e; exact ⟨_, tLog, _, hbox9, by decide, by decide, by decide, by decide⟩)
  · have h1 : Chg h.foot w w1 := H.chg.then hc1 (fun k hk e => by rcases e with e | e; exact e; omega)
    have h2 : Chg h.foot w w9 := h1.then hg9 (fun k hk e => by have := own_new g2 k e; omega)
    exact h2.then hc (fun k hk e => by omega)

def layT (i : Nat) (ks : Keys) (l : List Item) (k : Nat) : Keys := (l.zipIdx.take k).foldl (fun ks p => aset ks p.1.key ⟨false, i, p.2⟩) ks
theorem layT_succ (i : Nat) (ks : Keys) {l : List Item} {k : Nat} {x : Item} (h : l[k]? = some x) : layT i ks l (k + 1) = aset (layT i ks l k) x.key ⟨false, i, k⟩ := foldl_take _ _ _ _ _ (zip_get h)
theorem layT_all (i : Nat) (ks : Keys) (l : List Item) : layT i ks l l.length = layK i ks l := by
  unfold layT
  rw [List.take_of_length_le (by simp)]
  rfl
theorem Lg.Ok.lay {G : Lg} (ho : G.Ok) {q k : Nat} {S : Sealed} {x : Item} (hS : G.regs[q]? = some S) (hx : S.l[k]? = some x) : ({ G with keys := aset G.keys x.key ⟨false, q, k⟩ } : Lg).Ok :=
  { ho with
    keys := by
      intro key p hp
      have h : aget (aset G.keys x.key ⟨false, q, k⟩) key = some p := hp
      rw [aget_aset] at h
      split at h
      · rename_i hk
        injection h with h
        subst h
        unfold Lg.plOk
        simp only [Bool.false_eq_true, if_false]
        exact ⟨S, x, hS, hx, hk⟩
      · exact ho.keys key p h }
theorem byNum_lt (regs : List Sealed) : ∀ i ∈ byNum regs, i < regs.length := by
  intro i hi
  unfold byNum sortR at hi
  rw [List.mem_reverse] at hi
  have := (insL_mem (rnum regs) i (counts regs)).1 hi
  exact counts_mem this
theorem byNum_len (regs : List Sealed) : (byNum regs).length ≤ regs.length := by
  unfold byNum sortR
  rw [List.length_reverse]
  have h1 := insL_length (rnum regs) (counts regs)
  have h2 := counts_len regs regs.length
  unfold insL at h1
  rw [h1]; exact h2

/-- a log whose regions are read -/
def Lg.bare (D : Dev) (first n : Nat) : Lg := { losses := D.losses, first, regs := opRegs D first n, opn := [], number := opTopT D first n, keys := [] }
theorem OpMid.log {N : Nat} {w wr : World} {h : DevH} {D : Dev} {first M L n : Nat} {R : Value} (H : OpMid w h D N first M L n R wr) (hM : w.heap.size ≤ M) (hL : w.heap.size ≤ L) (hn : 1 ≤ n) (hm : n ≤ 64) (hf : first + 4 * n ≤ 4096) :
    LgAt wr h ⟨L, M, R, .slice none 0 0, fun k => w.heap.size ≤ k ∧ k < wr.heap.size⟩ (Lg.bare D first n) := by
  have hlen := opRegs_len D first n
  refine { box := ?_, regs := ?_, opn := World.ownsRow_nil _ _ _ _, map := H.map, ownL := ⟨hL, H.box.lt⟩, ownM := ⟨hM, H.map.lt⟩, ownR := ?_, ownO := fun k hk => by simp [Value.ownBlock] at hk, lt := fun k hk => hk.2, far := H.far, ok := ?_ }
  · have := H.box
    simpa [openBox, Lg.bare, isum] using this
  · obtain ⟨ses, e1, e2, e3⟩ := H.regs
    refine ⟨ses, by show _ = (opRegs D first n).length; rw [hlen]; exact e1, by show World.ownsRow _ 0 tSeal 2 R (opRegs D first n).length _; rw [hlen]; exact own_base e2 (Nat.zero_le _), fun j S hS => ?_⟩
    obtain ⟨v, e4, e5⟩ := e3 j S hS
    obtain ⟨A, c, rfl, hnc, hr⟩ := own_slice e5
    refine ⟨_, e4, A, c, rfl, hnc, hr, fun g off h0 hA => ⟨?_, by simp [Value.ownBlock]⟩⟩
    have := e5.lt g (by
      rcases e5.2 with ⟨e, _⟩ | ⟨g', cap, cur, e, _⟩
      · injection e with e; rw [hA] at e; cases e
      · injection e with e
        rw [hA] at e
        simp only [Option.some.injEq, Addr.mk.injEq, and_true] at e
        rw [hA, e.1, e.2]
        rfl)
    exact this
  · intro k hk
    obtain ⟨ses, e1, e2, e3⟩ := H.regs
    exact e2.lt k hk
  · refine { pos := by show 0 < (opRegs D first n).length; omega, most := by show (opRegs D first n).length ≤ 64; omega, fit := by show first + 4 * (opRegs D first n).length ≤ 4096; omega, num := opTopT_lt _ _ _, small := ?_, good := rfl, sum := by simp [Lg.bare, isum], keys := fun key p hp => by cases hp }
    intro S hS
    unfold Lg.bare opRegs at hS
    obtain ⟨j, _, rfl⟩ := List.mem_map.1 hS
    exact ldS_ok _

section
variable {N : Nat} {w : World} {h : DevH} {D : Dev}
set_option maxRecDepth 100000 in
set_option maxHeartbeats 8000000 in
theorem gopen_calls (hd : DevN N w h D) (first n : Nat) (hn : 1 ≤ n) (hm : n < 20) (hf : first + 4 * n ≤ D.n) (hoff : D.off = false) :
    Calls Tryz.prog 39 #[.pointer (some ⟨h.d, 0, none⟩), .int .i64 first, .int .i64 n] w fun e w' => ∃ t : LgH, e = .returned (.tuple #[.pointer (some ⟨t.L, 0, none⟩), .int .i64 0]) ∧ LgAt w' h t (Lg.opened D first n) ∧ DevN N w' h D ∧ (∀ k, t.own k → w.heap.size ≤ k) ∧ Chg h.foot w w' := by
  have HP := Lib.hid (pages_calls hd)
  have HPO := Lib.hid (power_calls hd)
  have HLO := Lib.hid (losses_calls hd)
  rw [hoff] at HPO
  have HOFF := Lib.hid hoff
  have hnm := hd.nmost
  have HD := Lib.hid hd
  have HFIT := Lib.hid hf
  have hMf : w.heap.size ≠ h.M := fun e => by have := foot_size hd (k := h.M) (.inr (.inr rfl)); omega
  have HMF := Lib.hid hMf
  obtain ⟨dn, hdn⟩ : ∃ dn, dn = D.n := ⟨_, rfl⟩
  rw [← hdn] at HP hf hnm
  have hmm := @run_makeMap Tryz.prog
  clear hd hdn hoff hMf
  have e1 : IntKind.i64.wrap (4 * (n : Int)) = 4 * (n : Int) := IntWalk.i64_in _ (by omega)
  have e2 : IntKind.i64.wrap ((dn : Int) - (first : Int)) = (dn : Int) - (first : Int) := IntWalk.i64_in _ (by omega)
  have b1 : decide ((first : Int) < 0) = false := decide_eq_false (by omega)
  have b2 : decide ((n : Int) < 1) = false := decide_eq_false (by omega)
  have b3 : decide ((64 : Int) < (n : Int)) = false := decide_eq_false (by omega)
  have b4 : decide ((dn : Int) < (first : Int)) = false := decide_eq_false (by omega)
  have b4' : ¬ dn < first := by omega
  have b5 : decide ((dn : Int) - (first : Int) < 4 * (n : Int)) = false := decide_eq_false (by omega)
  obtain ⟨lo, hlo⟩ : ∃ lo, lo = D.losses := ⟨_, rfl⟩
  rw [← hlo] at HLO
  have HLOE := Lib.hid hlo
  clear hlo
  go_enter Tryz.func39, Tryz.ntmps39
  go_wp2_with (first
    | (go_at_call 33; refine HP.out.mono ?_; rintro e w' ⟨rfl, rfl⟩)
    | (go_at_call 34; refine HPO.out.mono ?_; rintro e w' ⟨rfl, rfl⟩)
    | (go_at_call 35; refine HLO.out.mono ?_; rintro e w' ⟨rfl, rfl⟩))
  go_loopg [52] n (fun gk vi wr => ∃ (i : Nat) (R : Value), gk = n - i ∧ i ≤ n ∧ vi = .int .i64 i ∧ Hid (OpMid w h D N first w.heap.size (w.heap.size + 1) i R wr))
  case atStart =>
    refine ⟨0, .slice none 0 0, rfl, Nat.zero_le _, rfl, ?_⟩
    have hm0 := MapIs.made skey w
    refine ⟨?_, ⟨[], rfl, World.ownsRow_nil _ _ _ _, fun j S hS => by simp [opRegs] at hS⟩, hm0.alloc _, HD.out.chgNo (by (repeat (first | (with_reducible exact Chg.refl _ _) | (with_reducible assumption) | (with_reducible refine Chg.drewN ?_ _) | (with_reducible refine Chg.drew ?_) | (with_reducible refine Chg.alloc ?_ _) | (with_reducible refine Chg.setCell ?_ (by first | (left; simp [DevH.foot]; done) | (right; simp; done) | (right; simp; omega)) _)))), by (repeat (first | (with_reducible exact Chg.refl _ _) | (with_reducible assumption) | (with_reducible refine Chg.drewN ?_ _) | (with_reducible refine Chg.drew ?_) | (with_reducible refine Chg.alloc ?_ _) | (with_reducible refine Chg.setCell ?_ (by first | (left; simp [DevH.foot]; done) | (right; simp; done) | (right; simp; omega)) _))), HMF.out⟩
    have := Blk.new (w.alloc (.map #[] 0)) tLog (openBox h D.losses first (.slice none 0 0) (opTopT D first 0) w.heap.size)
    rw [World.size_alloc] at this
    rw [HLOE.out]
    exact this
  case round =>
    obtain ⟨i, R, rfl, hi, rfl, H⟩ := hrel
    by_cases hlt : i < n
    · obtain ⟨ses, hses, hrow, hreg⟩ := H.out.regs
      obtain ⟨Ar, cr, rfl, hncr, _⟩ := own_slice hrow
      have d3 := H.out.box.cell 3
      have f3 := H.out.box.frozen 3
      have hll := H.out.box.lt
      simp [openBox] at d3
      have HLD := fun W => Lib.hid (fun hc : Chg No wr W => rload_calls (H.out.dev.chgNo hc) (w.heap.size + 1) D.losses first i (opTopT D first i) w.heap.size (.slice Ar i cr) (H.out.box.chg hc (fun h => h)) HOFF.out (by have := HFIT.out; omega) (opTopT_lt _ _ _))
      have HTS : Hid (opTopT D first (i + 1) = ldTop (D.rpg first i) (opTopT D first i) 4) := opTopT_succ _ _ _
      have HRS : Hid (opRegs D first (i + 1) = opRegs D first i ++ [ldS (D.rpg first i)]) := opRegs_succ _ _ _
      obtain ⟨S, hS⟩ : ∃ S, S = ldS (D.rpg first i) := ⟨_, rfl⟩
      rw [← hS] at HRS
      simp only [← hS] at HLD
      rw [← HTS.out] at HLD
      have hwz := H.out.chg.size
      have HFB : ∀ W, Hid (Chg (fun k => h.foot k ∨ k = w.heap.size + 1) wr W → ∀ k cs T fz, wr.heap[k]? = some (.cells cs T fz) → T = tSeal ∨ T = tItem → ¬ (h.foot k ∨ k = w.heap.size + 1)) := fun W => fun hc k cs T fz hg hT => by
        rintro (hf | he)
        · rcases hT with rfl | rfl <;> exact H.out.dev.not_foot hg (by decide) (by decide) hf
        · have hb := H.out.box
          rw [he] at hg
          unfold Blk at hb
          rw [hg] at hb
          injection hb with hb
          injection hb with _ e
          rcases hT with rfl | rfl <;> exact absurd e (by decide)
      have h63 : i + 1 ≤ maxLen := by simp only [maxLen]; omega
      have hby : (i + 1) * 32 ≤ 140737488355328 := by omega
      clear hS hses hrow hreg hmm
      go_wp2_with fail
      go_region_law ((first
        | (refine step_call2 _ rfl 69 (.tmp 60) (.tmp 61) _ rfl _ _ rfl rfl (callf_load _ _ _) ((HLD _).out (by (repeat (first | (with_reducible exact Chg.refl _ _) | (with_reducible assumption) | (with_reducible refine Chg.drewN ?_ _) | (with_reducible refine Chg.drew ?_) | (with_reducible refine Chg.alloc ?_ _) | (with_reducible refine Chg.setCell ?_ (by first | (left; simp [DevH.foot]; done) | (right; simp; done) | (right; simp; omega)) _))))) ?_
           rintro e w1 ⟨v, rfl, hov, hd1, hb1, hc1⟩
           obtain ⟨Av, cv, rfl, hncv, hrv⟩ := own_slice hov
           have HC1 : Hid (Chg (fun k => h.foot k ∨ k = w.heap.size + 1) wr w1) := (by (repeat (first | (with_reducible exact Chg.refl _ _) | (with_reducible assumption) | (with_reducible refine Chg.drewN ?_ _) | (with_reducible refine Chg.drew ?_) | (with_reducible refine Chg.alloc ?_ _) | (with_reducible refine Chg.setCell ?_ (by first | (left; simp [DevH.foot]; done) | (right; simp; done) | (right; simp; omega)) _))) : Chg No wr _).mono (fun _ _ h => h.elim) |>.trans hc1
           have HB1 := Lib.hid hb1
           have HD1 := Lib.hid hd1
           have HOV := Lib.hid hov
           have d3' := hb1.cell 3
           have f3' := hb1.frozen 3
           have hll' := hb1.lt
           simp [openBox] at d3'
           clear hov hd1 hb1 hc1 hrv
           refine ⟨_, rfl, ?_⟩)
        | (obtain ⟨ses, hses, hrow, hreg⟩ := H.out.rows HC1.out ((HFB _).out HC1.out)
           refine step_app _ rfl (.tmp 59) (.tmp 63) tSeals rfl tSeal Tryz.underlying129 ti_seal rfl (by omega) w.heap.size (.slice Ar i cr) i (secs ses) rfl (by first | exact hrow.alloc _ | exact (own_chg hrow (by (repeat (first | (with_reducible exact Chg.refl _ _) | (with_reducible assumption) | (with_reducible refine Chg.drewN ?_ _) | (with_reducible refine Chg.drew ?_) | (with_reducible refine Chg.alloc ?_ _) | (with_reducible refine Chg.setCell ?_ (by first | (left; simp [DevH.foot]; done) | (right; simp; done) | (right; simp; omega)) _))) : Chg No w1 _) (fun _ _ h => h))) tSeal _ 1 1 [.int .u64 S.num, .slice Av S.l.length cv] rfl (rd_two _ tSeal _ _) (by simp [Value.oneCell']) h63 hby (by have := HC1.out.size; simp; omega) ?_
           intro v9 w9 ho9 hg9 hb9
           obtain ⟨A9, c9, rfl, hnc9, hrd9⟩ := own_slice ho9
           have HO9 : Hid (w9.ownsRow w.heap.size tSeal 2 (.slice A9 (i + 1) c9) (i + 1) (secs ses ++ [.int .u64 S.num, .slice Av S.l.length cv])) := ho9
           have HS9 : Hid (ses.length = i ∧ w1.ownsRow w.heap.size tSeal 2 (.slice Ar i cr) i (secs ses) ∧ ∀ (j : Nat) (S : Sealed), (opRegs D first i)[j]? = some S → ∃ v, ses[j]? = some (S.num, v) ∧ w1.ownsRow w.heap.size tItem 5 v S.l.length (its S.l)) := ⟨hses, hrow, hreg⟩
           have HG9 : Hid (Chg (fun k => Value.ownBlock (.slice Ar i cr) = some k) w1 w9) := Chg.grown (by (repeat (first | (with_reducible exact Chg.refl _ _) | (with_reducible assumption) | (with_reducible refine Chg.drewN ?_ _) | (with_reducible refine Chg.drew ?_) | (with_reducible refine Chg.alloc ?_ _) | (with_reducible refine Chg.setCell ?_ (by first | (left; simp [DevH.foot]; done) | (right; simp; done) | (right; simp; omega)) _)))) hg9 (fun k' hk' => .inl hk')
           have hb9' := HB1.out.chg HG9.out (fun e => own_other hrow HB1.out (by decide) e)
           have HB9 := Lib.hid hb9'
           have d39 := hb9'.cell 3
           have f39 := hb9'.frozen 3
           simp [openBox] at d39
           clear ho9 hg9 hb9 hrd9 hb9' hses hrow hreg)))
      all_goals
        go_wp2
        go_roundg (n - (i + 1))
        case measure => omega
        case rel => exact ⟨i + 1, _, rfl, by omega, by go_num, OpMid.next H.out HRS.out (Nat.le_refl _) H.out.map.lt (Nat.le_succ _) HC1.out HD1.out HB1.out HOV.out (Nat.le_refl _) HS9.out HO9.out HG9.out⟩
    · obtain rfl : i = n := by omega
      have hl1 := H.out.log (Nat.le_refl _) (Nat.le_succ _) hn (by omega) (by have := HFIT.out; omega)
      have hbm := byNum_lt (opRegs D first i)
      have HBN := Lib.hid (byNumber_calls hl1 (by show (opRegs D first i).length < 20; rw [opRegs_len]; exact hm))
      have HL1 := Lib.hid hl1
      have HCH := Lib.hid H.out.chg
      have HDV := Lib.hid H.out.dev
      have hbl := byNum_len (opRegs D first i)
      rw [opRegs_len] at hbm hbl
      obtain ⟨bn, hbn⟩ : ∃ bn, bn = byNum (Lg.bare D first i).regs := ⟨_, rfl⟩
      have hbm' : ∀ j ∈ bn, j < i := fun j hj => hbm j (by rw [hbn] at hj; exact hj)
      have hbl' : bn.length ≤ i := by rw [hbn]; exact hbl
      rw [← hbn] at HBN
      have HBE := Lib.hid hbn
      have HBM := Lib.hid hbm'
      have HOPK : Hid (Lg.opened D first i = { Lg.bare D first i with keys := bn.foldl (fun ks j => layK j ks (rl (Lg.bare D first i).regs j)) [] }) := by show _ = _; rw [hbn]; rfl
      obtain ⟨t1, ht1⟩ : ∃ t1 : LgH, t1 = ⟨w.heap.size + 1, w.heap.size, R, .slice none 0 0, fun k => w.heap.size ≤ k ∧ k < wr.heap.size⟩ := ⟨_, rfl⟩
      have HTL : Hid (t1.L = w.heap.size + 1 ∧ t1.M = w.heap.size ∧ t1.R = R ∧ ∀ k, t1.own k → w.heap.size ≤ k) := by rw [ht1]; exact ⟨rfl, rfl, rfl, fun k hk => hk.1⟩
      rw [← ht1] at HL1
      have hrow := HL1.out.row
      obtain ⟨r, ro, rc, hR, hrg, _⟩ := hrow
      obtain ⟨rfl, _, _, _⟩ := HL1.out.rowAt hR
      have HRR := Lib.hid hR
      obtain ⟨G1, hG1⟩ : ∃ G1 : Lg, G1 = Lg.bare D first i := ⟨_, rfl⟩
      rw [← hG1] at HL1 HOPK HBE
      have HGE : Hid (G1.regs.length = i ∧ G1.keys = []) := by rw [hG1]; exact ⟨opRegs_len _ _ _, rfl⟩
      clear hl1 hbm hbl hbn hbm' ht1 hR hG1 hlt hrg
      go_wp2_with fail
      refine HBN.out.mono ?_
      rintro e w1 ⟨vb, rfl, hob, hc1⟩
      obtain ⟨Ab, cb, rfl, hncb, hrb⟩ := own_slice hob
      have HRB : Hid (Rd w1 tInt1 Ab bn.length (ints bn)) := by show Rd _ _ _ _ _; simpa using hrb
      have HC1 := Lib.hid hc1
      obtain ⟨nb, hnb⟩ : ∃ nb, nb = bn.length := ⟨_, rfl⟩
      rw [← hnb] at HRB hbl' ⊢
      have HNB := Lib.hid hnb
      clear hob hc1 hrb hnb HBN
      go_wp2
      go_loopg [71] nb (fun gk vi wz => ∃ j : Nat, gk = nb - j ∧ j ≤ nb ∧ vi = .int .i64 j ∧
        Hid (LgAt wz h t1 { G1 with keys := (bn.take j).foldl (fun ks j => layK j ks (rl G1.regs j)) [] } ∧ DevN N wz h D ∧ Rd wz tInt1 Ab nb (ints bn) ∧ Chg h.foot w wz))
      case atStart =>
        refine ⟨0, rfl, Nat.zero_le _, rfl, ?_, HDV.out.chgNo HC1.out, HRB.out, HCH.out.then HC1.out (fun _ _ h => h.elim)⟩
        have := HL1.out.chgNo HC1.out
        have e : ({ G1 with keys := (bn.take 0).foldl (fun ks j => layK j ks (rl G1.regs j)) [] } : Lg) = G1 := by
          simp only [List.take_zero, List.foldl_nil, ← HGE.out.2]
        rw [e]; exact this
      case round =>
        obtain ⟨j, rfl, hj, rfl, H2⟩ := hrel
        by_cases hjl : j < nb
        · obtain ⟨q, hq⟩ : ∃ q, bn[j]? = some q := ⟨_, List.getElem?_eq_getElem (by rw [← HNB.out]; exact hjl)⟩
          have hqi := HBM.out q (List.mem_of_getElem? hq)
          obtain ⟨S, hS⟩ : ∃ S, G1.regs[q]? = some S := ⟨_, List.getElem?_eq_getElem (by rw [HGE.out.1]; exact hqi)⟩
          have hrl : rl G1.regs q = S.l := by unfold rl; rw [List.getD_eq_getElem?_getD, hS]; rfl
          obtain ⟨ks, hks⟩ : ∃ ks, ks = (bn.take j).foldl (fun ks j => layK j ks (rl G1.regs j)) [] := ⟨_, rfl⟩
          rw [← hks] at H2
          have HFS : Hid ((bn.take (j + 1)).foldl (fun ks j => layK j ks (rl G1.regs j)) [] = layK q ks S.l) := by
            show _ = _
            rw [List.take_add_one, hq, Option.toList, List.foldl_append, ← hks, List.foldl_cons, List.foldl_nil, hrl]
          obtain ⟨vs, e0, e1', hsl⟩ := H2.out.1.rowCell HRR.out q S hS
          obtain ⟨Ai, ci, rfl, hnci, hrdi, _⟩ := hsl
          have hmax := (HL1.out.ok.small S (List.mem_of_getElem? hS)).1
          have d3 := H2.out.1.box.cell 3
          simp at d3
          rw [HRR.out, HTL.out.1] at d3
          have hlen3 : (Lg.bare D first i).regs.length = i := opRegs_len _ _ _
          rw [hlen3] at d3
          obtain ⟨gb, ob, eb, hgb, hcb⟩ := (show Rd wr tInt1 Ab (nb * 1) (ints bn) by rw [Nat.mul_one]; exact H2.out.2.2.1).at_ (j := j) (by omega)
          subst eb
          have cb0 := hcb j _ (ints_get hq)
          obtain ⟨l, hll⟩ : ∃ l, l = S.l := ⟨_, rfl⟩
          rw [← hll] at e1' hnci hrdi hmax HFS
          have HLS : Hid (∀ (k : Nat) (x : Item), l[k]? = some x → S.l[k]? = some x) := fun k x hx => by rw [← hll]; exact hx
          obtain ⟨nl, hnl⟩ : ∃ nl, nl = l.length := ⟨_, rfl⟩
          rw [← hnl] at e1' hnci hmax
          have HNL := Lib.hid hnl
          have hqii : (q : Int) < (i : Int) := by omega
          have hji : (j : Int) < (nb : Int) := by omega
          have HSS := Lib.hid hS
          have hlay := layT_all q ks l
          rw [← hnl] at hlay
          have HLAY := Lib.hid hlay
          obtain ⟨wo, rfl⟩ : ∃ wo : World, wo = wr := ⟨_, rfl⟩
          have HRI : Hid (Rd wo tItem Ai (l.length * 5) (its l)) := hrdi
          clear hq hqi hS hrl hks e0 hrdi hlen3 hcb hll hnl hlay
          go_wp2
          go_loopg [84] nl (fun gk vi wz => ∃ k : Nat, gk = nl - k ∧ k ≤ nl ∧ vi = .int .i64 k ∧
            Hid (LgAt wz h t1 { G1 with keys := layT q ks l k } ∧ DevN N wz h D ∧ Rd wz tInt1 (some ⟨gb, ob, none⟩) nb (ints bn) ∧ Chg h.foot w wz ∧ Rd wz tItem Ai (l.length * 5) (its l)))
          case atStart => exact ⟨0, rfl, Nat.zero_le _, rfl, H2.out.1, H2.out.2.1, H2.out.2.2.1, H2.out.2.2.2, HRI.out⟩
          case round =>
            obtain ⟨k, rfl, hk, rfl, K⟩ := hrel
            by_cases hkl : k < nl
            · obtain ⟨x, hx⟩ : ∃ x, l[k]? = some x := ⟨_, List.getElem?_eq_getElem (by rw [← HNL.out]; exact hkl)⟩
              have hsucc := layT_succ q ks hx
              obtain ⟨kk, hkk⟩ : ∃ kk, layT q ks l k = kk := ⟨_, rfl⟩
              rw [hkk] at K hsucc
              obtain ⟨g, off, c', he', hg, c0, c1, c2, c3, c4⟩ := SlAt.item (w := wr) (t := ⟨0, 0, .slice none 0 0, .slice none 0 0, fun _ => True⟩) (v := .slice Ai l.length ci) ⟨Ai, ci, rfl, by rw [← HNL.out]; exact hnci, K.out.2.2.2.2, fun _ _ _ _ => ⟨trivial, by simp [Value.ownBlock]⟩⟩ hx
              obtain ⟨ea, _, _⟩ : Ai = some ⟨g, off, none⟩ ∧ True ∧ True := by injection he' with e1 e2 e3; exact ⟨e1, trivial, trivial⟩
              subst ea
              have hki : (k : Int) < (nl : Int) := by omega
              have HSUC := Lib.hid hsucc
              have HX := Lib.hid hx
              clear hsucc hkk hx he'
              go_wp2_with fail
              refine wp_forget (fun W => Chg No wr W ∧ Blk W wr.heap.size tItem (itc x).toArray) ⟨by (repeat (first | (with_reducible exact Chg.refl _ _) | (with_reducible assumption) | (with_reducible refine Chg.drewN ?_ _) | (with_reducible refine Chg.drew ?_) | (with_reducible refine Chg.alloc ?_ _) | (with_reducible refine Chg.setCell ?_ (by first | (left; simp [DevH.foot]; done) | (right; simp; done) | (right; simp; omega)) _))), Blk.new _ _ _⟩ (fun W hW => ?_)
              obtain ⟨hcW, hbW⟩ := hW
              obtain ⟨ga, hga⟩ : ∃ ga, wr.heap.size = ga := ⟨_, rfl⟩
              rw [hga] at hbW ⊢
              have hlW := K.out.1.chgNo (hcW.drew)
              have d7 := hlW.box.cell 7
              simp at d7
              rw [HTL.out.1] at d7
              have a0 := hbW.cell 0
              simp [itc] at a0
              obtain ⟨o, hrun, hmap⟩ := hlW.map.update (P := Tryz.prog) (keyLaw_string (Tryz.underlying9)) Tryz.underlying128 x.key (plv ⟨false, q, k⟩)
              rw [aset_amap] at hmap
              simp only [plv] at hrun
              have hok : ({ G1 with keys := aset kk x.key ⟨false, q, k⟩ } : Lg).Ok := hlW.ok.lay (q := q) (k := k) (S := S) (x := x) HSS.out (HLS.out k x HX.out)
              have hcM : Chg (fun k => k = t1.M) W.drew (setBlock W.drew t1.M o) := chg_setBlock _ _ _
              have HN1 := Lib.hid (And.intro (hlW.rekey hcM hmap hok) hcM)
              have HLW := Lib.hid hlW
              have HCW := Lib.hid hcW
              clear hlW hcW hbW hga hmap hok hcM c0 c1 c2 c3 c4
              go_region
              all_goals
                go_wp2
                go_roundg (nl - (k + 1))
                case measure => omega
                case rel =>
                  refine ⟨k + 1, rfl, by omega, by go_num, ?_⟩
                  rw [HSUC.out]
                  refine ⟨HN1.out.1, dev_map ((K.out.2.1.chgNo HCW.out).chgNo ((Chg.refl _ _).drew)) HLW.out.map HLW.out.far HN1.out.2, ?_, ?_, ?_⟩
                  · exact (K.out.2.2.1.chg (HCW.out.drew) (fun _ _ _ _ h => h)).chg HN1.out.2 (fun g cur fz hg e => HLW.out.map.ne_blk hg e.symm)
                  · exact (K.out.2.2.2.1.then (HCW.out.drew) (fun _ _ h => h.elim)).then HN1.out.2 (fun p hp e => by have := HTL.out.2.1; omega)
                  · exact (K.out.2.2.2.2.chg (HCW.out.drew) (fun _ _ _ _ h => h)).chg HN1.out.2 (fun g cur fz hg e => HLW.out.map.ne_blk hg e.symm)
            · obtain rfl : k = nl := by omega
              rw [HLAY.out, ← HFS.out] at K
              clear hkl
              go_wp2
              go_roundg (nb - (j + 1))
              case measure => omega
              case rel => exact ⟨j + 1, rfl, by omega, by go_num, K.out.1, K.out.2.1, K.out.2.2.1, K.out.2.2.2.1⟩
        · obtain rfl : j = nb := by omega
          rw [List.take_of_length_le (by rw [← HNB.out]; exact Nat.le_refl _), ← HOPK.out] at H2
          clear hjl
          go_wp2
          go_ret2
          exact ⟨t1, by rw [HTL.out.1]; rfl, H2.out.1, H2.out.2.1, HTL.out.2.2.2, H2.out.2.2.2⟩
end
end Go.Proofs.YtplpbbdakihnfaaGreat
end

/- image.Load in plain Lean; what Dump wrote is loaded again. -/
section
namespace Go.Proofs.YtplpbbdakihnfaaGreat
open Go.RowKit
set_option linter.unusedSimpArgs false
set_option linter.unusedVariables false

/-- what a page holds as the i-th of n -/
def ldPage (p : List UInt8) (i n : Nat) : Option (List UInt8) :=
  if p.take 2 = [73, 77] ∧ num (cut p 4 8) = i ∧ num (cut p 2 4) ≤ 376 ∧ ¬ (num (cut p 2 4) < 376 ∧ i + 1 < n) then some (cut p 8 (8 + num (cut p 2 4))) else none
/-- the bytes of the first k pages, or the error -/
def Dev.ldB (D : Dev) (first : Int) (n : Nat) : Nat → Except Int (List UInt8)
  | 0 => .ok []
  | k + 1 => match D.ldB first n k with
    | .error e => .error e
    | .ok b => if D.readE (first + k) = 0 then (match ldPage (D.read (first + k)) k n with
      | none => .error 3
      | some c => .ok (b ++ c)) else .error 3
/-- the items of bytes that are records alone -/
def lsd : Nat → List UInt8 → Option (List Item)
  | 0, _ => none
  | k + 1, b => if b.length = 0 then some [] else match take b with
    | .ok x n => (lsd k (b.drop n)).map (x :: ·)
    | _ => none
def loadOf (b : List UInt8) : Option (List Item) := lsd (b.length + 1) b
theorem lsd_more {k : Nat} : ∀ {b : List UInt8}, b.length < k → lsd k b = lsd (k + 1) b := by
  induction k with
  | zero => intro b h; omega
  | succ k ih =>
    intro b h
    rw [lsd, lsd]
    by_cases h0 : b.length = 0
    · rw [if_pos h0, if_pos h0]
    · rw [if_neg h0, if_neg h0]
      cases ht : take b with
      | none => rfl
      | bad => rfl
      | ok x n =>
        have hl := take_ok_len ht
        simp only
        rw [ih (by rw [List.length_drop]; omega)]
theorem lsd_loadOf {k : Nat} {b : List UInt8} (h : b.length < k) : lsd k b = loadOf b := by
  unfold loadOf
  obtain ⟨d, rfl⟩ : ∃ d, k = b.length + 1 + d := ⟨k - (b.length + 1), by omega⟩
  clear h
  induction d with
  | zero => rfl
  | succ d ih => rw [← ih, ← Nat.add_assoc, ← lsd_more (by omega)]
theorem loadOf_step (b : List UInt8) : loadOf b = if b.length = 0 then some [] else match take b with
    | .ok x n => (loadOf (b.drop n)).map (x :: ·)
    | _ => none := by
  unfold loadOf
  rw [lsd]
  by_cases h0 : b.length = 0
  · rw [if_pos h0, if_pos h0]
  · rw [if_neg h0, if_neg h0]
    cases ht : take b with
    | none => rfl
    | bad => rfl
    | ok x n =>
      have hl := take_ok_len ht
      simp only
      rw [lsd_loadOf (by rw [List.length_drop]; omega), loadOf]
theorem loadOf_records (l : List Item) (hg : goods l = true) : loadOf (records l) = some l := by
  induction l with
  | nil => rfl
  | cons x r ih =>
    simp only [goods, List.all_cons, Bool.and_eq_true] at hg
    have e : records (x :: r) = record x ++ records r := by simp [records]
    have hl : (record x ++ records r).length ≠ 0 := by rw [List.length_append, record_length]; unfold Item.size; omega
    rw [loadOf_step, e, if_neg hl, take_record x _ hg.1]
    simp only
    rw [← record_length, List.drop_left, ih hg.2]
    rfl
/-- what Load answers: the items, the error -/
def Dev.load (D : Dev) (first n : Int) : List Item × Int :=
  if D.may first n then (if D.off then ([], 4) else match D.ldB first n.toNat n.toNat with
    | .error e => ([], e)
    | .ok b => match loadOf b with
      | some l => (l, 0)
      | none => ([], 3)) else ([], 1)
theorem Dev.ldB_err {D : Dev} {first : Int} {n k : Nat} {e : Int} (h : D.ldB first n k = .error e) {j : Nat} (hj : k ≤ j) : D.ldB first n j = .error e := by
  obtain ⟨d, rfl⟩ : ∃ d, j = k + d := ⟨j - k, by omega⟩
  clear hj
  induction d with
  | zero => exact h
  | succ d ih => rw [← Nat.add_assoc, Dev.ldB, ih]

theorem ldPage_pgOf (c : List UInt8) (j n : Nat) (hc : c.length ≤ 376) (hj : j < 4294967296) (hlast : c.length < 376 → n ≤ j + 1) : ldPage (Dev.pad (pgOf c j)) j n = some c := by
  obtain ⟨z, hz⟩ : ∃ z, Dev.pad (pgOf c j) = pgOf c j ++ z := ⟨_, rfl⟩
  have c1 : (pgOf c j ++ z).take 2 = [73, 77] := by simp [pgOf, pgHead]
  have c2 : cut (pgOf c j ++ z) 4 8 = le 4 j := cut_mid (A := [73, 77] ++ le 2 c.length) (C := c ++ z) (by simp [pgOf, pgHead]) (by simp [le_length]) (by rw [le_length])
  have c3 : cut (pgOf c j ++ z) 2 4 = le 2 c.length := cut_mid (A := [73, 77]) (C := le 4 j ++ (c ++ z)) (by simp [pgOf, pgHead]) rfl (by rw [le_length])
  have c4 : cut (pgOf c j ++ z) 8 (8 + c.length) = c := cut_mid (A := pgHead c.length j) (C := z) (by simp [pgOf]) (pgHead_len _ _) rfl
  rw [hz]
  unfold ldPage
  rw [c1, c2, c3, num_le_of_lt (by omega), num_le_of_lt (by omega), c4, if_pos ⟨rfl, rfl, hc, fun h => by have := hlast h.1; omega⟩]

theorem ckN_mul (len : Nat) : len ≤ ckN len * 376 := by unfold ckN; omega
theorem ck_full {b : List UInt8} {j : Nat} (h : (ck b j).length < 376) : ckN b.length ≤ j + 1 := by rw [ck_len] at h; unfold ckN; omega
theorem take_ck (b : List UInt8) (j : Nat) : b.take (j * 376) ++ ck b j = b.take ((j + 1) * 376) := by
  unfold ck
  rw [Nat.add_mul, Nat.one_mul, List.take_add]

theorem Dev.ldB_ok {D : Dev} {first : Int} {b : List UInt8} {n : Nat} (hn : n = ckN b.length) (hlim : n ≤ 4096)
    (h : ∀ j : Nat, j < n → D.readE (first + j) = 0 ∧ D.read (first + j) = Dev.pad (pgOf (ck b j) j)) : ∀ k, k ≤ n → D.ldB first n k = .ok (b.take (k * 376)) := by
  intro k
  induction k with
  | zero => intro _; simp [Dev.ldB]
  | succ k ih =>
    intro hk
    obtain ⟨h1, h2⟩ := h k (by omega)
    rw [Dev.ldB, ih (by omega)]
    simp only
    rw [if_pos h1, h2, ldPage_pgOf (ck b k) k n (by rw [ck_len]; omega) (by omega) (fun hh => by rw [hn]; exact ck_full hh)]
    simp only
    rw [take_ck]
theorem Dev.load_ok {D : Dev} {first : Int} {l : List Item} {n : Nat} (hg : goods l = true) (hm : D.may first n = true) (hoff : D.off = false) (hn : n = ckN (records l).length) (hlim : n ≤ 4096)
    (h : ∀ j : Nat, j < n → D.readE (first + j) = 0 ∧ D.read (first + j) = Dev.pad (pgOf (ck (records l) j) j)) : D.load first n = (l, 0) := by
  unfold Dev.load
  rw [hm, hoff, if_pos rfl, if_neg (by simp), Int.toNat_natCast, Dev.ldB_ok hn hlim h n (Nat.le_refl _)]
  simp only
  rw [List.take_of_length_le (by rw [hn]; exact ckN_mul _), loadOf_records l hg]

/-- a device with power and no trap -/
structure Dev.Ok (D : Dev) : Prop where
  on : D.off = false
  free : D.armed = 0
theorem Dev.Ok.spent_ {D : Dev} (h : D.Ok) : D.spent = true ∧ D.spend = D := by
  unfold Dev.spent Dev.spend
  rw [h.on, h.free]
  exact ⟨rfl, by simp⟩
theorem Dev.Ok.write_ {D : Dev} (h : D.Ok) {k : Nat} (hk : k < D.n) {b : List UInt8} (hb : b.length ≤ 384) : D.writeE k b.length = 0 ∧ D.write k b = D.put k (.full (Dev.pad b)) := by
  obtain ⟨h1, h2⟩ := h.spent_
  have hh : D.has (k : Int) = true := by simp [Dev.has]; omega
  unfold Dev.writeE Dev.write Dev.changeE Dev.change
  rw [hh, h1, h2, decide_eq_true hb]
  exact ⟨rfl, by simp⟩
theorem Dev.Ok.put_ {D : Dev} (h : D.Ok) (k : Nat) (p : Pg) : (D.put k p).Ok := ⟨h.on, h.free⟩
theorem Dev.put_page (D : Dev) (k : Nat) (p : Pg) (i : Nat) : (D.put k p).page i = if i = k then p else D.page i := by
  unfold Dev.put Dev.page
  simp only
  by_cases hi : i = k
  · rw [if_pos hi, if_pos hi]; rfl
  · rw [if_neg hi, if_neg hi]
theorem Dev.settled_page (D : Dev) (i : Nat) : D.settled.page i = D.page i := rfl
theorem Dev.Ok.flush_ {D : Dev} (h : D.Ok) : D.flush = D.settled ∧ D.settled.Ok ∧ D.changeE = 0 := by
  obtain ⟨h1, h2⟩ := h.spent_
  unfold Dev.flush Dev.changeE
  rw [h1, h2]
  exact ⟨by simp, ⟨h.on, h.free⟩, by simp⟩
theorem Dev.Ok.read_ {D : Dev} (h : D.Ok) {k : Nat} (hk : k < D.n) : D.readE k = (D.page k).err ∧ D.read k = (D.page k).data := by
  have hh : D.has (k : Int) = true := by simp [Dev.has]; omega
  unfold Dev.readE Dev.read
  rw [hh, h.on]
  exact ⟨by simp, by simp⟩

theorem pgOf_ck_le (b : List UInt8) (j : Nat) : (pgOf (ck b j) j).length ≤ 384 := by rw [pgOf_len, ck_len]; omega
theorem Dev.Ok.puts_ {D : Dev} (h : D.Ok) (f : Nat) (b : List UInt8) : ∀ k, f + k ≤ D.n → (D.puts f b k).Ok ∧ (D.puts f b k).n = D.n ∧
    (∀ j, j < k → D.putsE f b j = 0) ∧ (∀ i, (D.puts f b k).page i = if f ≤ i ∧ i < f + k then .full (Dev.pad (pgOf (ck b (i - f)) (i - f))) else D.page i) := by
  intro k
  induction k with
  | zero => intro _; exact ⟨h, rfl, fun j hj => absurd hj (by omega), fun i => by rw [if_neg (by omega)]; rfl⟩
  | succ k ih =>
    intro hk
    obtain ⟨i1, i2, i3, i4⟩ := ih (by omega)
    have hw := i1.write_ (k := f + k) (by omega) (pgOf_ck_le b k)
    have hE : D.putsE f b k = 0 := by
      rw [Dev.putsE_eq]
      exact hw.1
    have hW : D.puts f b (k + 1) = (D.puts f b k).put (f + k) (.full (Dev.pad (pgOf (ck b k) k))) := by
      rw [Dev.puts_succ]
      exact hw.2
    rw [hW]
    refine ⟨i1.put_ _ _, i2, fun j hj => ?_, fun i => ?_⟩
    · by_cases hjk : j = k
      · rw [hjk]; exact hE
      · exact i3 j (by omega)
    · rw [Dev.put_page, i4]
      by_cases hi : i = f + k
      · subst hi
        rw [if_pos rfl, if_pos (by omega), Nat.add_sub_cancel_left]
      · rw [if_neg hi]
        by_cases h2 : f ≤ i ∧ i < f + k
        · rw [if_pos h2, if_pos (by omega)]
        · rw [if_neg h2, if_neg (by omega)]

theorem ckN_fit {l : List Item} {pages : Nat} : ckN (records (l.take (fitI (376 * (pages : Int)) 0 l))).length ≤ pages := by
  rw [isum_records]
  by_cases h0 : 0 < fitI (376 * (pages : Int)) 0 l
  · have := fitI_room (376 * (pages : Int)) l 0 h0
    unfold ckN; omega
  · have : fitI (376 * (pages : Int)) 0 l = 0 := by omega
    rw [this]; simp [isum, ckN]
theorem goods_takeN {l : List Item} (h : goods l = true) (n : Nat) : goods (l.take n) = true := by
  unfold goods at h ⊢
  rw [List.all_eq_true] at h ⊢
  exact fun y hy => h y (List.mem_of_mem_take hy)
theorem may_nat {D : Dev} {first pages : Int} (h : D.may first pages = true) : ∃ f p : Nat, first = f ∧ pages = p ∧ f + p ≤ D.n := by
  simp only [Dev.may, Bool.and_eq_true, decide_eq_true_eq] at h
  obtain ⟨⟨⟨h1, h2⟩, h3⟩, h4⟩ := h
  exact ⟨first.toNat, pages.toNat, by omega, by omega, by omega⟩
theorem may_of {D : Dev} {f p : Nat} (h : f + p ≤ D.n) : D.may (f : Int) (p : Int) = true := by
  simp only [Dev.may, Bool.and_eq_true, decide_eq_true_eq]
  omega

/-- a dump on a device with power and no trap -/
theorem DumpR.good {D D' : Dev} {first pages : Int} {l : List Item} {p m : Nat} {er : Int} (h : DumpR D first pages l p m er D') (hD : D.Ok) (hm : D.may first pages = true) (hg : goods l = true) :
    er = 0 ∧ m = fitI (376 * pages) 0 l ∧ p = ckN (records (l.take m)).length ∧ p ≤ pages ∧ D'.Ok ∧ D'.n = D.n ∧
      ∀ i, D'.page i = if first ≤ i ∧ (i : Int) < first + p then .full (Dev.pad (pgOf (ck (records (l.take m)) (i - first.toNat)) (i - first.toNat))) else D.page i := by
  obtain ⟨f, pg, rfl, rfl, hfp⟩ := may_nat hm
  have hfit := ckN_fit (l := l) (pages := pg)
  obtain ⟨b, hb⟩ : ∃ b, b = records (l.take (fitI (376 * (pg : Int)) 0 l)) := ⟨_, rfl⟩
  rw [← hb] at hfit
  obtain ⟨i1, i2, i3, i4⟩ := hD.puts_ f b (ckN b.length) (by omega)
  obtain ⟨f1, f2, f3⟩ := i1.flush_
  cases h with
  | arg h => rw [hm, hg] at h; cases h
  | cut k _ hk _ he => rw [← hb] at hk he; exact absurd (i3 k hk) he
  | noflush _ _ he => rw [← hb] at he; exact absurd f3 he
  | ok _ _ _ =>
    rw [← hb]
    refine ⟨rfl, rfl, rfl, by omega, ?_, ?_, fun i => ?_⟩
    · rw [f1]; exact f2
    · rw [f1]; exact i2
    · rw [f1, Dev.settled_page, i4]
      have e : (f ≤ i ∧ i < f + ckN b.length) ↔ ((f : Int) ≤ i ∧ (i : Int) < f + (ckN b.length : Int)) := by omega
      simp only [e, Int.toNat_natCast]
theorem DumpR.bad {D D' : Dev} {first pages : Int} {l : List Item} {p m : Nat} {er : Int} (h : DumpR D first pages l p m er D') (hm : (D.may first pages && goods l) = false) : p = 0 ∧ m = 0 ∧ er = 1 ∧ D' = D := by
  cases h with
  | arg h => exact ⟨rfl, rfl, rfl, rfl⟩
  | cut k h _ _ _ => rw [hm] at h; cases h
  | noflush h _ _ => rw [hm] at h; cases h
  | ok h _ _ => rw [hm] at h; cases h
/-- pages that hold an image's bytes are loaded -/
theorem Dev.Ok.load_ {D : Dev} (hD : D.Ok) {f p : Nat} {l : List Item} (hg : goods l = true) (hfp : f + p ≤ D.n) (hp : p = ckN (records l).length) (hlim : p ≤ 4096)
    (h : ∀ j, j < p → D.page (f + j) = .full (Dev.pad (pgOf (ck (records l) j) j))) : D.load f p = (l, 0) := by
  refine Dev.load_ok hg (may_of hfp) hD.on hp hlim (fun j hj => ?_)
  obtain ⟨r1, r2⟩ := hD.read_ (k := f + j) (by omega)
  rw [h j hj] at r1 r2
  exact ⟨r1, r2⟩
end Go.Proofs.YtplpbbdakihnfaaGreat
end

/- A dump that was answered OK lasts; in plain Lean. -/
section
namespace Go.Proofs.YtplpbbdakihnfaaGreat
open Go.RowKit
set_option linter.unusedSimpArgs false
set_option linter.unusedVariables false

theorem Dev.spend_pg (D : Dev) : D.spend.fl = D.fl ∧ D.spend.wt = D.wt ∧ D.spend.n = D.n := by
  unfold Dev.spend
  split
  · exact ⟨rfl, rfl, rfl⟩
  · split
    · exact ⟨rfl, rfl, rfl⟩
    · split
      · exact ⟨rfl, rfl, rfl⟩
      · exact ⟨rfl, rfl, rfl⟩
theorem Dev.changeE_or (D : Dev) : D.changeE = 0 ∧ D.spent = true ∨ D.changeE = 4 ∧ D.spent = false := by
  unfold Dev.changeE
  cases h : D.spent with
  | true => exact .inl ⟨rfl, rfl⟩
  | false => exact .inr ⟨rfl, rfl⟩
theorem Dev.writeE_or {D : Dev} {k : Nat} (hk : k < D.n) {b : List UInt8} (hb : b.length ≤ 384) : D.writeE k b.length = 0 ∧ (D.write k b).n = D.n ∧ (∀ i, (D.write k b).page i = if i = k then .full (Dev.pad b) else D.page i) ∨ D.writeE k b.length = 4 ∧ (D.write k b).n = D.n := by
  have hh : D.has (k : Int) = true := by simp [Dev.has]; omega
  obtain ⟨s1, s2, s3⟩ := D.spend_pg
  unfold Dev.writeE Dev.write Dev.change
  rw [hh, decide_eq_true hb]
  simp only [Bool.and_self, if_true, Int.toNat_natCast]
  rcases D.changeE_or with ⟨h1, h2⟩ | ⟨h1, h2⟩
  · left
    rw [h1, h2]
    refine ⟨rfl, s3, fun i => ?_⟩
    simp only [if_true]
    rw [show (D.spend.put k (.full (Dev.pad b))).page i = if i = k then .full (Dev.pad b) else D.spend.page i from ?_]
    · unfold Dev.page; rw [s1, s2]
    · unfold Dev.put Dev.page
      simp only
      by_cases hi : i = k
      · rw [if_pos hi, if_pos hi]; rfl
      · rw [if_neg hi, if_neg hi]
  · right
    rw [h1, h2]
    exact ⟨rfl, s3⟩
theorem Dev.puts_n {D : Dev} (f : Nat) (b : List UInt8) : ∀ k, f + k ≤ D.n → (D.puts f b k).n = D.n := by
  intro k
  induction k with
  | zero => intro _; rfl
  | succ k ih =>
    intro hk
    have hi := ih (by omega)
    rw [Dev.puts_succ]
    have hl : (pgOf (ck b k) k).length ≤ 384 := by rw [pgOf_len, ck_len]; omega
    rcases Dev.writeE_or (D := D.puts f b k) (k := f + k) (by omega) hl with ⟨_, h, _⟩ | ⟨_, h⟩
    · exact h.trans hi
    · exact h.trans hi
theorem Dev.putsE_or {D : Dev} (f : Nat) (b : List UInt8) (k : Nat) (hk : f + k < D.n) : D.putsE f b k = 0 ∨ D.putsE f b k = 4 := by
  have hl : (pgOf (ck b k) k).length ≤ 384 := by rw [pgOf_len, ck_len]; omega
  rw [Dev.putsE_eq]
  rcases Dev.writeE_or (D := D.puts f b k) (k := f + k) (by rw [Dev.puts_n f b k (by omega)]; omega) hl with ⟨h, _, _⟩ | ⟨h, _⟩
  · exact .inl h
  · exact .inr h
/-- as long as each write was answered OK -/
theorem Dev.puts_pg {D : Dev} (f : Nat) (b : List UInt8) : ∀ k, f + k ≤ D.n → (∀ j, j < k → D.putsE f b j = 0) → ∀ i, (D.puts f b k).page i = if f ≤ i ∧ i < f + k then .full (Dev.pad (pgOf (ck b (i - f)) (i - f))) else D.page i := by
  intro k
  induction k with
  | zero => intro _ _ i; rw [if_neg (by omega)]; rfl
  | succ k ih =>
    intro hk hE i
    have hi := ih (by omega) (fun j hj => hE j (by omega))
    have hl : (pgOf (ck b k) k).length ≤ 384 := by rw [pgOf_len, ck_len]; omega
    have h0 := hE k (by omega)
    rw [Dev.putsE_eq] at h0
    rcases Dev.writeE_or (D := D.puts f b k) (k := f + k) (by rw [Dev.puts_n f b k (by omega)]; omega) hl with ⟨_, _, h⟩ | ⟨h, _⟩
    · have h' : (D.puts f b (k + 1)).page i = if i = f + k then .full (Dev.pad (pgOf (ck b k) k)) else (D.puts f b k).page i := by rw [Dev.puts_succ]; exact h i
      rw [h', hi]
      by_cases hik : i = f + k
      · subst hik
        rw [if_pos rfl, if_pos (by omega), Nat.add_sub_cancel_left]
      · rw [if_neg hik]
        by_cases h2 : f ≤ i ∧ i < f + k
        · rw [if_pos h2, if_pos (by omega)]
        · rw [if_neg h2, if_neg (by omega)]
    · have h0' : (D.puts f b k).writeE ((f + k : Nat) : Int) (pgOf (ck b k) k).length = 0 := h0
      rw [h] at h0'
      cases h0'
/-- nothing waits -/
def Dev.still (D : Dev) : Prop := ∀ i, D.wt i = none
theorem Dev.still_page {D : Dev} (h : D.still) (i : Nat) : D.page i = D.fl i := by unfold Dev.page; rw [h i]; rfl
theorem Dev.settle_still {D : Dev} (h : D.still) (picks : List UInt8) : (D.settle picks).still ∧ ∀ i, (D.settle picks).page i = D.page i := by
  refine ⟨fun i => rfl, fun i => ?_⟩
  have e : (D.settle picks).page i = (D.settle picks).fl i := Dev.still_page (fun i => rfl) i
  rw [e, Dev.still_page h]
  unfold Dev.settle
  simp only [h i]
theorem Dev.crash_on {D : Dev} (h : D.still) (picks : List UInt8) : (D.crash picks).on.Ok ∧ (D.crash picks).on.n = D.n ∧ ∀ i, (D.crash picks).on.page i = D.page i := by
  obtain ⟨h1, h2⟩ := Dev.settle_still h picks
  have h3 : (D.crash picks).still := h1
  obtain ⟨_, h4⟩ := Dev.settle_still h3 []
  refine ⟨⟨rfl, rfl⟩, rfl, fun i => ?_⟩
  have e1 : (D.crash picks).on.page i = ((D.crash picks).settle []).page i := rfl
  have e2 : (D.crash picks).page i = (D.settle picks).page i := rfl
  rw [e1, h4, e2, h2]
theorem Dev.flush_still {D : Dev} (h : D.changeE = 0) : D.flush.still ∧ D.flush.n = D.n ∧ ∀ i, D.flush.page i = D.page i := by
  obtain ⟨s1, s2, s3⟩ := D.spend_pg
  rcases D.changeE_or with ⟨_, h2⟩ | ⟨h1, _⟩
  · unfold Dev.flush
    rw [h2, if_pos rfl]
    refine ⟨fun i => rfl, s3, fun i => ?_⟩
    rw [Dev.settled_page]
    unfold Dev.page
    rw [s1, s2]
  · rw [h] at h1; cases h1

/-- a dump of what may be kept: OK, or cut off by the power; and what was answered OK is loaded behind a crash -/
theorem DumpR.lasts {D D' : Dev} {first pages : Int} {l : List Item} {p m : Nat} {er : Int} (h : DumpR D first pages l p m er D') (hm : D.may first pages = true) (hg : goods l = true) (hn : D.n ≤ 4096) (picks : List UInt8) :
    er = 4 ∨ er = 0 ∧ p ≤ pages ∧ (D'.crash picks).on.load first p = (l.take m, 0) := by
  obtain ⟨f, pg, rfl, rfl, hfp⟩ := may_nat hm
  have hfit := ckN_fit (l := l) (pages := pg)
  cases h with
  | arg h => rw [hm, hg] at h; cases h
  | cut k _ hk _ he =>
    rcases Dev.putsE_or (D := D) f (records (l.take (fitI (376 * (pg : Int)) 0 l))) k (by omega) with h | h
    · exact absurd h he
    · exact .inl h
  | noflush _ _ he =>
    rcases (Dev.changeE_or _) with ⟨h, _⟩ | ⟨h, _⟩
    · exact absurd h he
    · exact .inl h
  | ok _ hE he =>
    refine .inr ⟨rfl, by omega, ?_⟩
    obtain ⟨b, hb⟩ : ∃ b, b = records (l.take (fitI (376 * (pg : Int)) 0 l)) := ⟨_, rfl⟩
    rw [← hb] at hfit hE he ⊢
    obtain ⟨f1, f2, f3⟩ := Dev.flush_still he
    obtain ⟨c1, c2, c3⟩ := Dev.crash_on f1 picks
    have hpn := Dev.puts_n (D := D) f b (ckN b.length) (by omega)
    have hpp := Dev.puts_pg (D := D) f b (ckN b.length) (by omega) hE
    refine c1.load_ (goods_takeN hg _) (by rw [c2, f2, hpn]; omega) (by rw [hb]) (by omega) (fun j hj => ?_)
    rw [c3, f3, hpp, if_pos (by omega), Nat.add_sub_cancel_left, hb]
end Go.Proofs.YtplpbbdakihnfaaGreat
end
