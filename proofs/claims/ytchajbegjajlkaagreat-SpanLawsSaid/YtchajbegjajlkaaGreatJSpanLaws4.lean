/- Texts of this claim, one behind the other: SpX16, SpXL16, SpXM16. -/
import Derived.Test.YtchajbegjajlkaaGreatJSpanLaws3
import Derived.WalkLawsBesides
import Derived.RegionTactic
/- The walk of a set's make. -/
set_option linter.unusedVariables false
set_option linter.unusedSimpArgs false
namespace Go.Proofs.YtchajbegjajlkaaGreat
open Go.RowKit
namespace S16
theorem from_from {s : Sp.S} {p q : Nat} (h : p ≤ q) : Sp.from_ (Sp.from_ s p) q = Sp.from_ s q := by
  induction s with
  | nil => rfl
  | cons x r ih =>
    by_cases hx : x.2 < p
    · rw [from_cons_lt hx, ih, from_cons_lt (by omega)]
    · rw [from_cons_ge hx]
theorem look_from {s : Sp.S} {p q : Nat} (h : p ≤ q) : Sp.look TOP (Sp.from_ s p) q = Sp.look TOP s q := by
  unfold Sp.look
  rw [from_from h]
theorem infoSp : (Tryz.prog.info? 46).map (fun i => (i.zero, i.size, i.bytes)) = some (some (.agg #[.int .u16 0, .int .u16 0]), 2, 4) := by kernel_rfl
/-- a list of spans of one's own -/
def OwnS (w : World) (B : Nat) (A : Option Addr) (n c : Nat) (s : Sp.S) : Prop := w.ownsRow B 46 2 (.slice A n c) n (s.map scell).flatten ∧ s.length = n
/-- a row over a set, somewhere behind p -/
def RowAt (w : World) (B g p : Nat) (s : Sp.S) : Prop := ∃ A n c q, q ≤ p ∧ Row w g 273 [.slice A n c] ∧ IsS w B A n (Sp.from_ s q) ∧ n ≤ c ∧ c ≤ 9223372036854775807
theorem RowAt.chg {w w' : World} {B g p : Nat} {s : Sp.S} {T : List Nat} (h : RowAt w B g p s) (hc : Chg T w w') (hg : g ∉ T) (hT : ∀ k ∈ T, B ≤ k) (hB : B ≤ w.heap.size) : RowAt w' B g p s := by
  obtain ⟨A, n, c, q, h1, h2, h3, h4, h5⟩ := h
  exact ⟨A, n, c, q, h1, hc.row h2 hg, h3.below (hc.below hB hT), h4, h5⟩
theorem RowAt.le {w : World} {B g p p' : Nat} {s : Sp.S} (h : RowAt w B g p s) (hp : p ≤ p') : RowAt w B g p' s := by
  obtain ⟨A, n, c, q, h1, h2⟩ := h
  exact ⟨A, n, c, q, by omega, h2⟩
/-- how far make has come -/
def MkI (w wr : World) (f : Bool → Bool → Bool) (ga gb gr : Nat) (s t : Sp.S) (k : Nat) (o pv mv : Value) : Prop := ∃ A n c out, o = .slice A n c ∧ Hid (OwnS wr w.heap.size A n c out ∧ Below w.heap.size w wr ∧ Row wr gr 42 [.slice none 0 0] ∧ ga ≠ gb ∧ w.heap.size ≤ ga ∧ w.heap.size ≤ gb ∧ w.heap.size ≤ gr) ∧
  ((∃ p : Nat, pv = .int .u16 (p : Nat) ∧ mv = .bool true ∧ p ≤ 65535 ∧ Hid (RowAt wr w.heap.size ga p s ∧ RowAt wr w.heap.size gb p t) ∧ Hid (Sp.Nrm TOP out ∧ (∀ x ∈ out, x.2 < p) ∧ (∀ q, q < p → Sp.has out q = f (Sp.has s q) (Sp.has t q)) ∧ out.length + Sp.phi s p + Sp.phi t p ≤ 2 * s.length + 2 * t.length) ∧ Hid (65535 - p + 1 < k)) ∨ (∃ p : Nat, pv = .int .u16 (p : Nat) ∧ mv = .bool false ∧ Hid (Sp.Mk TOP f s t out)))
theorem push_scell (out : Sp.S) (p l : Nat) : ((out ++ [(p, l)]).map scell).flatten = (out.map scell).flatten ++ scell (p, l) := by simp
theorem at_row {w : World} {B g p : Nat} {s : Sp.S} (h : RowAt w B g p s) (hB : B ≤ g) (hn : Sp.Nrm TOP s) (hp : p ≤ TOP) :
    Calls Tryz.prog 239 #[.pointer (some ⟨g, 0, none⟩), .int .u16 (p : Nat)] w fun e w' => e = .returned (.tuple #[.bool (Sp.look TOP s p).1, .int .u16 ((Sp.look TOP s p).2 : Nat)]) ∧ RowAt w' B g p s ∧ Chg [g] w w' := by
  obtain ⟨A, n, c, q, hq, hr, hs, hc, hcm⟩ := h
  have h2 := at_any B g p A n c (Sp.from_ s q) w hr hs hB hc hcm (Sp.from_nrm hn q) hp
  rw [look_from hq, from_from hq] at h2
  refine h2.mono fun e w' ⟨h1, A', n', c', h3, h4, h5, h6, h7⟩ => ⟨h1, ⟨A', n', c', p, Nat.le_refl _, h3, h4, h5, h6⟩, h7⟩
/-- the world's part of make's rounds -/
structure MkW (w wr : World) (ga gb gr : Nat) (A : Option Addr) (n c : Nat) (out s t : Sp.S) (p : Nat) : Prop where
  own : OwnS wr w.heap.size A n c out
  bel : Below w.heap.size w wr
  res : Row wr gr 42 [.slice none 0 0]
  ne : ga ≠ gb
  la : w.heap.size ≤ ga
  lb : w.heap.size ≤ gb
  lr : w.heap.size ≤ gr
  ra : RowAt wr w.heap.size ga p s
  rb : RowAt wr w.heap.size gb p t
theorem RowAt.row {w : World} {B g p : Nat} {s : Sp.S} (h : RowAt w B g p s) : ∃ cs, Row w g 273 cs := by
  obtain ⟨A, n, c, q, _, hr, _⟩ := h
  exact ⟨_, hr⟩
section
variable {w wr : World} {ga gb gr n c p : Nat} {A : Option Addr} {out s t : Sp.S}
theorem MkW.far (h : MkW w wr ga gb gr A n c out s t p) : ga ≠ gr ∧ gb ≠ gr ∧ (∀ k, (Value.slice A n c).ownBlock = some k → k ≠ ga ∧ k ≠ gb ∧ k ≠ gr) := by
  obtain ⟨ca, hra⟩ := h.ra.row
  obtain ⟨cb, hrb⟩ := h.rb.row
  refine ⟨fun e => ?_, fun e => ?_, fun k hk => ?_⟩
  · subst e; exact absurd rfl (Blk.ne_ (cs := ca.toArray) (cs' := _) hra h.res (by decide))
  · subst e; exact absurd rfl (Blk.ne_ (cs := cb.toArray) (cs' := _) hrb h.res (by decide))
  · obtain ⟨cur, hb⟩ := own_blkr h.own.1 k hk
    refine ⟨fun e => ?_, fun e => ?_, fun e => ?_⟩
    · subst e; exact absurd rfl (Blk.ne_ (cs := ca.toArray) (cs' := cur) hra hb (by decide))
    · subst e; exact absurd rfl (Blk.ne_ (cs := cb.toArray) (cs' := cur) hrb hb (by decide))
    · subst e; exact absurd rfl (Blk.ne_ (cs' := cur) h.res hb (by decide))
theorem MkW.at_a (h : MkW w wr ga gb gr A n c out s t p) {wy : World} (ha : RowAt wy w.heap.size ga p s) (hc : Chg [ga] wr wy) : MkW w wy ga gb gr A n c out s t p := by
  obtain ⟨f1, f2, f3⟩ := h.far
  have hT : ∀ k ∈ [ga], w.heap.size ≤ k := by intro k hk; rw [List.mem_singleton.1 hk]; exact h.la
  exact ⟨⟨owns_chgr h.own.1 hc fun k hk => by simp; exact (f3 k hk).1, h.own.2⟩, below_chg h.bel (Nat.le_refl _) hc hT, hc.row h.res (by simp; exact fun e => f1 e.symm), h.ne, h.la, h.lb, h.lr, ha, h.rb.chg hc (by simp; exact fun e => h.ne e.symm) hT h.bel.size⟩
theorem MkW.at_b (h : MkW w wr ga gb gr A n c out s t p) {wy : World} (hb : RowAt wy w.heap.size gb p t) (hc : Chg [gb] wr wy) : MkW w wy ga gb gr A n c out s t p := by
  obtain ⟨f1, f2, f3⟩ := h.far
  have hT : ∀ k ∈ [gb], w.heap.size ≤ k := by intro k hk; rw [List.mem_singleton.1 hk]; exact h.lb
  exact ⟨⟨owns_chgr h.own.1 hc fun k hk => by simp; exact (f3 k hk).2.1, h.own.2⟩, below_chg h.bel (Nat.le_refl _) hc hT, hc.row h.res (by simp; exact fun e => f2 e.symm), h.ne, h.la, h.lb, h.lr, h.ra.chg hc (by simp; exact h.ne) hT h.bel.size, hb⟩
theorem MkW.le (h : MkW w wr ga gb gr A n c out s t p) {p' : Nat} (hp : p ≤ p') : MkW w wr ga gb gr A n c out s t p' := ⟨h.own, h.bel, h.res, h.ne, h.la, h.lb, h.lr, h.ra.le hp, h.rb.le hp⟩
/-- the list of what is made changes -/
theorem MkW.made (h : MkW w wr ga gb gr A n c out s t p) {wy : World} {A' : Option Addr} {n' c' : Nat} {out' : Sp.S} {T : List Nat} (ho : OwnS wy w.heap.size A' n' c' out') (hc : Chg T wr wy) (hT : ∀ k ∈ T, (Value.slice A n c).ownBlock = some k) : MkW w wy ga gb gr A' n' c' out' s t p := by
  obtain ⟨f1, f2, f3⟩ := h.far
  have hB : ∀ k ∈ T, w.heap.size ≤ k := fun k hk => (h.own.1.lt k (hT k hk)).1
  exact ⟨ho, below_chg h.bel (Nat.le_refl _) hc hB, hc.row h.res (fun hm => (f3 _ (hT _ hm)).2.2 rfl), h.ne, h.la, h.lb, h.lr, h.ra.chg hc (fun hm => (f3 _ (hT _ hm)).1 rfl) hB h.bel.size, h.rb.chg hc (fun hm => (f3 _ (hT _ hm)).2.1 rfl) hB h.bel.size⟩
end
theorem new_reads (w : World) (x : Nat × Nat) : Reads (w.alloc (.cells (scell x).toArray 46)) (w.alloc (.cells (scell x).toArray 46)).heap.size 2 (some ⟨w.heap.size, 0, none⟩) 1 (scell x) := by
  have h := Row.new w 46 (scell x)
  refine ⟨rfl, fun _ => ⟨_, rfl, h.lt, fun j u hu => ?_⟩⟩
  rw [Addr.add_mid, Nat.zero_add, h.cell, hu]
theorem chg_app {w w1 : World} {row : Option Nat} {o : Obj} (h : (w.alloc o).grownBy w1 row) : Chg row.toList w w1 :=
  ⟨h.os, h.tape, h.output, Nat.le_trans (by simp) h.size, fun k hk hn => (h.block k (Nat.lt_of_lt_of_le hk (by simp)) (fun e => hn (by rw [← e]; simp))).trans (Below.heap_alloc w o k hk)⟩
theorem set_scell (a : Sp.S) (ya yb l : Nat) : (((a ++ [(ya, yb)]).map scell).flatten).set (2 * a.length + 1) (.int .u16 (l : Nat)) = ((a ++ [(ya, l)]).map scell).flatten := by
  have hl := flat_len (s := 2) _ (scell_len a)
  rw [List.length_map] at hl
  rw [List.map_append, List.flatten_append, List.map_append, List.flatten_append, List.set_append_right _ _ (by omega), hl, show 2 * a.length + 1 - 2 * a.length = 1 by omega]
  rfl
theorem two_rows (w3 : World) (t : TypeId) (a b : Value) : Row ((w3.alloc (.cells #[a] t)).alloc (.cells #[b] t)).drew w3.heap.size t [a] ∧ Row ((w3.alloc (.cells #[a] t)).alloc (.cells #[b] t)).drew (w3.heap.size + 1) t [b] ∧ Below w3.heap.size w3 ((w3.alloc (.cells #[a] t)).alloc (.cells #[b] t)).drew := by
  refine ⟨(((Row.new w3 t [a]).alloc _).drewN 1), ?_, (((Below.refl _ _).alloc (Nat.le_refl _) _).alloc (by simp) _).drew⟩
  have h := (Row.new (w3.alloc (.cells #[a] t)) t [b]).drewN 1
  rw [show (w3.alloc (.cells #[a] t)).heap.size = w3.heap.size + 1 by simp] at h
  exact h
theorem from_zero (s : Sp.S) : Sp.from_ s 0 = s := by
  cases s with
  | nil => rfl
  | cons x r => exact from_cons_ge (by omega)
set_option maxRecDepth 100000 in
set_option maxHeartbeats 2000000 in
theorem make_or (f : Bool → Bool → Bool) (A A' : Option Addr) (n c n' c' : Nat) (s t : Sp.S) (w : World) (hk : Keeps 143 f) (hs : IsS w w.heap.size A n s) (ht : IsS w w.heap.size A' n' t) (hc : n ≤ c) (hcm : c ≤ 9223372036854775807) (hc' : n' ≤ c') (hcm' : c' ≤ 9223372036854775807) (hns : Sp.Nrm TOP s) (hnt : Sp.Nrm TOP t) (hsm : n + n' ≤ 2199023255552) :
    Calls Tryz.prog 142 #[.agg #[.slice A n c], .agg #[.slice A' n' c'], .func (.func 143) #[] #[]] w fun e w' => ∃ Ao no co out, e = .returned (.agg #[.slice Ao no co]) ∧ OwnS w' w.heap.size Ao no co out ∧ Sp.Mk TOP f s t out ∧ Below w.heap.size w w' := by
  obtain ⟨i0, hi0, hz1, hz2, hz3⟩ := info_parts infoSp
  have HI := Lib.hid hi0; have HZ1 := Lib.hid hz1; have HZ2 := Lib.hid hz2; have HZ3 := Lib.hid hz3
  have HK := Lib.hid hk; have HS := Lib.hid hs; have HT := Lib.hid ht; have HNS := Lib.hid hns; have HNT := Lib.hid hnt
  clear hi0 hz1 hz2 hz3 hk hs ht hns hnt
  go_enter Tryz.func142, Tryz.ntmps142
  go_upto_region 1 with fail
  have r0 : Row (((w.alloc (.cells #[.slice A n c] 42)).alloc (.cells #[.slice A' n' c'] 42)).alloc (.cells #[.slice none 0 0] 42)) w.heap.size 42 [.slice A n c] := ((Row.new w _ [.slice A n c]).alloc _).alloc _
  have r1 : Row (((w.alloc (.cells #[.slice A n c] 42)).alloc (.cells #[.slice A' n' c'] 42)).alloc (.cells #[.slice none 0 0] 42)) (w.heap.size + 1) 42 [.slice A' n' c'] := by
    have h := (Row.new (w.alloc (.cells #[.slice A n c] 42)) 42 [.slice A' n' c']).alloc (.cells #[.slice none 0 0] 42)
    rw [show (w.alloc (.cells #[.slice A n c] 42)).heap.size = w.heap.size + 1 by simp] at h
    exact h
  have r2 : Row (((w.alloc (.cells #[.slice A n c] 42)).alloc (.cells #[.slice A' n' c'] 42)).alloc (.cells #[.slice none 0 0] 42)) (w.heap.size + 1 + 1) 42 [.slice none 0 0] := by
    have h := Row.new ((w.alloc (.cells #[.slice A n c] 42)).alloc (.cells #[.slice A' n' c'] 42)) 42 [.slice none 0 0]
    rw [show ((w.alloc (.cells #[.slice A n c] 42)).alloc (.cells #[.slice A' n' c'] 42)).heap.size = w.heap.size + 1 + 1 by simp] at h
    exact h
  have hb3 : Below w.heap.size w (((w.alloc (.cells #[.slice A n c] 42)).alloc (.cells #[.slice A' n' c'] 42)).alloc (.cells #[.slice none 0 0] 42)) := (((Below.refl _ _).alloc (Nat.le_refl _) _).alloc (by simp) _).alloc (by simp; omega) _
  have c0 := r0.cell 0
  have c1 := r1.cell 0
  simp only [List.getElem?_cons_zero] at c0 c1
  have hl0 := r0.lt
  have hl1 := r1.lt
  have hl2 := r2.lt
  obtain ⟨gr, hgr⟩ : ∃ gr, gr = w.heap.size + 1 + 1 := ⟨_, rfl⟩
  rw [← hgr] at r2 hl2 ⊢
  have hgr0 : w.heap.size ≤ gr := by omega
  generalize ((w.alloc (.cells #[.slice A n c] 42)).alloc (.cells #[.slice A' n' c'] 42)).alloc (.cells #[.slice none 0 0] 42) = w3 at *
  have HR2 := Lib.hid r2; have HB3 := Lib.hid hb3
  clear r0 r1 r2 hb3 hgr
  go_cut [7, 8] (fun x y wx => ∃ ga gb : Nat, x = .pointer (some ⟨ga, 0, none⟩) ∧ y = .pointer (some ⟨gb, 0, none⟩) ∧ Hid (ga ≠ gb ∧ w.heap.size ≤ ga ∧ w.heap.size ≤ gb ∧ Row wx ga 273 [.slice A n c] ∧ Row wx gb 273 [.slice A' n' c'] ∧ Below w3.heap.size w3 wx))
  case first =>
    go_region
    all_goals
      go_wp2_with fail
      go_meet
      case rel =>
        first
          | exact ⟨_, _, rfl, rfl, Lib.hid ⟨by omega, by omega, by omega, (two_rows w3 _ _ _).1, (two_rows w3 _ _ _).2.1, (two_rows w3 _ _ _).2.2⟩⟩
          | exact ⟨_, _, rfl, rfl, Lib.hid ⟨by omega, by omega, by omega, (two_rows w3 _ _ _).2.1, (two_rows w3 _ _ _).1, (two_rows w3 _ _ _).2.2⟩⟩
  case rest =>
    obtain ⟨ga, gb, rfl, rfl, HG⟩ := hcut
    clear c0 c1 hl0 hl1
    have HBW : Hid (Below w.heap.size w wc) := Lib.hid (HB3.out.trans (HG.out.2.2.2.2.2.mono HB3.out.size))
    have HI0 : Hid (MkI w wc f ga gb gr s t 18446744073709551617 (.slice none 0 0) (.int .u16 0) (.bool true)) := Lib.hid (by
      obtain ⟨g1, g2, g3, g4, g5, g6⟩ := HG.out
      refine ⟨none, 0, 0, [], rfl, Lib.hid ⟨⟨World.ownsRow_nil _ _ _ _, rfl⟩, HBW.out, HR2.out.below g6 HR2.out.lt, g1, g2, g3, hgr0⟩, .inl ⟨0, rfl, rfl, by omega, Lib.hid ⟨⟨A, n, c, 0, by omega, g4, by rw [from_zero]; exact HS.out.below HBW.out, hc, hcm⟩, ⟨A', n', c', 0, by omega, g5, by rw [from_zero]; exact HT.out.below HBW.out, hc', hcm'⟩⟩, Lib.hid ⟨Sp.Nrm.nil _, by simp, by omega, by have h1 := Sp.phi_le s 0; have h2 := Sp.phi_le t 0; simp only [List.length_nil]; omega⟩, Lib.hid (by omega)⟩⟩)
    clear HG HBW HB3 HR2 hl2
    go_wp2_with fail
    go_loopg [9, 10, 11] 18446744073709551617 (fun k o p m wr => Hid (MkI w wr f ga gb gr s t k o p m))
    case atStart => exact HI0
    case round =>
      clear HI0
      obtain ⟨A1, n1, c1, out, rfl, HO, hr2⟩ := hrel.out
      rcases hr2 with ⟨p, rfl, rfl, hp, HRA, HPT, HGK⟩ | ⟨p, rfl, rfl, HMK⟩
      · have hmk : MkW w wr ga gb gr A1 n1 c1 out s t p := ⟨HO.out.1, HO.out.2.1, HO.out.2.2.1, HO.out.2.2.2.1, HO.out.2.2.2.2.1, HO.out.2.2.2.2.2.1, HO.out.2.2.2.2.2.2, HRA.out.1, HRA.out.2⟩
        have HW := Lib.hid hmk
        have HN1 : Hid (out.length = n1) := Lib.hid HO.out.1.2
        clear hrel hmk HO HRA
        obtain ⟨R, hR⟩ : ∃ R, R = Sp.look TOP s p := ⟨_, rfl⟩
        obtain ⟨T, hT⟩ : ∃ T, T = Sp.look TOP t p := ⟨_, rfl⟩
        have hpc := Sp.piece_ok (f := f) HNS.out HNT.out HPT.out.1 hp HPT.out.2.1 HPT.out.2.2.1
        have hph := Sp.round_phi HNS.out HNT.out hp
        have hpl := Sp.piece_len f TOP s t out p
        have hpd : Sp.piece f TOP s t out p = if f R.1 T.1 then Sp.push out p (min R.2 T.2) else out := by rw [hR, hT]; rfl
        rw [← hR, ← hT] at hpc hph
        obtain ⟨O2, hO2⟩ : ∃ O2, O2 = Sp.piece f TOP s t out p := ⟨_, rfl⟩
        rw [← hO2] at hpc hpl hpd
        have HA1 := Lib.hid (at_row HW.out.ra HW.out.la HNS.out hp)
        rw [← hR] at HA1
        have HA2 : Hid (∀ wx, MkW w wx ga gb gr A1 n1 c1 out s t p → Calls Tryz.prog 239 #[.pointer (some ⟨gb, 0, none⟩), .int .u16 (p : Nat)] wx fun e w' => e = .returned (.tuple #[.bool T.1, .int .u16 (T.2 : Nat)]) ∧ RowAt w' w.heap.size gb p t ∧ Chg [gb] wx w') := Lib.hid fun wx hx => by
          have h := at_row hx.rb hx.lb HNT.out hp
          rw [← hT] at h
          exact h
        obtain ⟨R1, R2⟩ := R
        obtain ⟨T1, T2⟩ := T
        simp only at hpc hph hpd HA1 HA2
        obtain ⟨LT, hLT⟩ : ∃ LT, LT = min R2 T2 := ⟨_, rfl⟩
        rw [← hLT] at hpc hph hpd
        have hlt1 := hpc.2.2.1.1
        have hlt2 : LT ≤ 65535 := hpc.2.2.1.2
        have HLT := Lib.hid hLT
        clear hLT
        have HPC := Lib.hid hpc; have HPH := Lib.hid hph; have HPD := Lib.hid hpd; have HPL := Lib.hid hpl
        clear hR hT hpc hph hpd hpl hO2
        go_wp2_with fail
        refine HA1.out.mono ?_
        rintro e wa ⟨rfl, hra, hca⟩
        have HWa := Lib.hid (HW.out.at_a hra hca)
        clear hra hca HA1 HW
        go_wp2_with fail
        refine (HA2.out _ HWa.out).mono ?_
        rintro e wb ⟨rfl, hrb, hcb⟩
        have HWb := Lib.hid (HWa.out.at_b hrb hcb)
        clear hrb hcb HA2 HWa
        go_upto_region 7 with fail
        go_cut [13] (fun x wx => x = .int .u16 (LT : Nat) ∧ wx = wb)
        case first =>
          by_cases hle : R2 ≤ T2
          · obtain rfl : LT = R2 := by have := HLT.out; omega
            go_wp2_with fail
            all_goals
              go_meet
              case rel => exact ⟨by go_num, rfl⟩
          · obtain rfl : LT = T2 := by have := HLT.out; omega
            go_wp2_with fail
            all_goals
              go_meet
              case rel => exact ⟨by go_num, rfl⟩
        case rest =>
        obtain ⟨rfl, hwx⟩ := hcut
        rw [hwx]
        clear hwx
        go_wp2_with fail
        refine (HK.out R1 T1 wb).mono ?_
        rintro e w' ⟨rfl, rfl⟩
        by_cases hM : LT = 65535
        · have e1 : IntKind.u16.wrap ((LT : Int) + 1) = 0 := by rw [IntKind.wrap_u16]; omega
          have e2 : ((LT : Int) != 65535) = false := by rw [bne_eq_false_iff_eq]; omega
          have e3 : bits .xor .u16 IntKind.u16.max 0 = 65535 := by decide
          have HM := Lib.hid hM
          clear hM
          cases hF : f R1 T1 with
          | false =>
            have HO : Hid (O2 = out) := Lib.hid (by have h := HPD.out; rw [hF] at h; exact h)
            have HWZ : Hid (MkW w wb ga gb gr A1 n1 c1 O2 s t p) := Lib.hid (by rw [HO.out]; exact HWb.out)
            clear HWb hF HPD
            go_wp2_with fail
            go_roundg (gk - 1)
            case measure => have := HGK.out; omega
            case rel => exact Lib.hid ⟨A1, n1, c1, O2, rfl, Lib.hid ⟨HWZ.out.own, HWZ.out.bel, HWZ.out.res, HWZ.out.ne, HWZ.out.la, HWZ.out.lb, HWZ.out.lr⟩, .inr ⟨0, rfl, rfl, Lib.hid ⟨HPC.out.1, fun q hq => HPC.out.2.2.2 q (by rw [HM.out]; exact hq)⟩⟩⟩
          | true =>
            have HO : Hid (O2 = Sp.push out p LT) := Lib.hid (by have h := HPD.out; rw [hF] at h; exact h)
            clear hF HPD
            have hbnd : n1 ≤ 4398046511104 := by have h1 := HPT.out.2.2.2; have h2 := HN1.out; have h3 := HS.out.2.1; have h4 := HT.out.2.1; omega
            rcases Sp.snoc_or out with rfl | ⟨a, y, rfl⟩
            · obtain rfl : n1 = 0 := HN1.out.symm
              have HWN := Lib.hid HWb.out
              have HRD : Hid (Reads (wb.alloc (.cells (scell (p, LT)).toArray 46)) (wb.alloc (.cells (scell (p, LT)).toArray 46)).heap.size 2 (some ⟨wb.heap.size, 0, none⟩) 1 (scell (p, LT))) := Lib.hid (new_reads wb (p, LT))
              unfold scell at HRD
              simp only [] at HRD
              have hws : w.heap.size ≤ wb.heap.size := HWb.out.bel.size
              go_wp2_with (at_builtin; refine wpList_append_sl _ (by rfl) (.tmp 63) (.tmp 67) 40 rfl w.heap.size 46 i0 _ 2 4 Tryz.underlying40 HI.out HZ1.out HZ2.out HZ3.out rfl (by omega) (.slice A1 0 c1) 0 (([] : Sp.S).map scell).flatten rfl (HWN.out.own.1.alloc _) _ (some ⟨wb.heap.size, 0, none⟩) 1 1 [.int .u16 (p : Nat), .int .u16 (LT : Nat)] rfl HRD.out (by simp [Value.oneCell']) (by unfold maxLen; omega) (by omega) (by simp; omega) ?_; intro A2 c2 wz hown hrd hgr hat; have HOWN := Lib.hid hown; have HGR := Lib.hid hgr; clear hown hrd hgr hat)
              have HWZ : Hid (MkW w wz ga gb gr A2 1 c2 O2 s t p) := Lib.hid (by
                rw [HO.out, Sp.push_nil]
                exact HWN.out.made (T := (Value.slice A1 0 c1).ownBlock.toList) ⟨HOWN.out, rfl⟩ (chg_app HGR.out) (fun k hk => by simpa using hk))
              clear HOWN HGR HWN HWb
              go_roundg (gk - 1)
              case measure => have := HGK.out; omega
              case rel => exact Lib.hid ⟨A2, 1, c2, O2, rfl, Lib.hid ⟨HWZ.out.own, HWZ.out.bel, HWZ.out.res, HWZ.out.ne, HWZ.out.la, HWZ.out.lb, HWZ.out.lr⟩, .inr ⟨0, rfl, rfl, Lib.hid ⟨HPC.out.1, fun q hq => HPC.out.2.2.2 q (by rw [HM.out]; exact hq)⟩⟩⟩
            · obtain ⟨m, rfl⟩ : ∃ m, n1 = m + 1 := ⟨a.length, by have := HN1.out; simp at this; omega⟩
              have hal : a.length = m := by have := HN1.out; simp at this; exact this
              have HAL := Lib.hid hal
              obtain ⟨go, rfl, hgo1, hgo2, hgo3, hgo4⟩ := own_somer HWb.out.own.1 (by omega)
              unfold maxLen at hgo4
              have hy := HPT.out.2.1 y (by simp)
              have cy : wb.cell? ⟨go, m * 2 + 1, none⟩ = some (.int .u16 (y.2 : Nat)) := by
                have h := HWb.out.own.1.cellAt (m * 2 + 1) (by omega)
                rw [h, List.map_append, List.flatten_append, List.getElem?_append_right (by rw [flat_len (s := 2) _ (scell_len a), List.length_map]; omega), flat_len (s := 2) _ (scell_len a), List.length_map, hal, show m * 2 + 1 - 2 * m = 1 by omega]
                rfl
              have zy : wb.frozen? ⟨go, m * 2 + 1, none⟩ = false := HWb.out.own.1.frozenAt _
              obtain ⟨ya, yb⟩ := y
              simp only at hy cy
              have e5 : IntKind.i64.wrap (((m : Int) + 1) - 1) = (m : Int) := by rw [IntKind.wrap_i64]; omega
              have e5' : (m : Int) + 1 - 1 = (m : Int) := by omega
              have e6 : IntKind.u16.wrap ((p : Int) - 1) = ((p - 1 : Nat) : Int) := by rw [IntKind.wrap_u16]; omega
              have e7 : (p : Int) - 1 = ((p - 1 : Nat) : Int) := by omega
              have hm0 : (0 : Int) ≤ (m : Int) := by omega
              clear hal
              by_cases hj : yb + 1 = p
              · have e8 : ((yb : Int) == ((p - 1 : Nat) : Int)) = true := by simp; omega
                have HO3 : Hid (O2 = a ++ [(ya, LT)]) := Lib.hid (by rw [HO.out, Sp.push_snoc, if_pos hj])
                have HWZ : Hid (MkW w (wb.setCell ⟨go, m * 2 + 1, none⟩ (.int .u16 (LT : Nat))) ga gb gr (some ⟨go, 0, none⟩) (m + 1) c1 O2 s t p) := Lib.hid (by
                  rw [HO3.out]
                  refine HWb.out.made (T := [go]) ⟨?_, by have := HAL.out; simp [this]⟩ ((Chg.refl [go] wb).set_ (p := ⟨go, m * 2 + 1, none⟩) (.inl (by simp)) _) (fun k hk => by rw [List.mem_singleton.1 hk]; rfl)
                  have h := (HWb.out.own.1.stored (2 * m + 1) (.int .u16 (LT : Nat))).1
                  rw [← HAL.out, set_scell, HAL.out] at h
                  rw [show m * 2 + 1 = 2 * m + 1 by omega]
                  exact h)
                clear hj HWb
                go_wp2_with fail
                go_roundg (gk - 1)
                case measure => have := HGK.out; omega
                case rel => exact Lib.hid ⟨_, m + 1, c1, O2, rfl, Lib.hid ⟨HWZ.out.own, HWZ.out.bel, HWZ.out.res, HWZ.out.ne, HWZ.out.la, HWZ.out.lb, HWZ.out.lr⟩, .inr ⟨0, rfl, rfl, Lib.hid ⟨HPC.out.1, fun q hq => HPC.out.2.2.2 q (by rw [HM.out]; exact hq)⟩⟩⟩
              · have e8 : ((yb : Int) == ((p - 1 : Nat) : Int)) = false := by simp; omega
                have HO3 : Hid (O2 = a ++ [(ya, yb)] ++ [(p, LT)]) := Lib.hid (by rw [HO.out, Sp.push_snoc, if_neg hj])
                have HWN := Lib.hid HWb.out
                have HRD : Hid (Reads (wb.alloc (.cells (scell (p, LT)).toArray 46)) (wb.alloc (.cells (scell (p, LT)).toArray 46)).heap.size 2 (some ⟨wb.heap.size, 0, none⟩) 1 (scell (p, LT))) := Lib.hid (new_reads wb (p, LT))
                unfold scell at HRD
                simp only [] at HRD
                have hws : w.heap.size ≤ wb.heap.size := HWb.out.bel.size
                clear hj
                go_wp2_with (at_builtin; refine wpList_append_sl _ (by rfl) (.tmp 63) (.tmp 67) 40 rfl w.heap.size 46 i0 _ 2 4 Tryz.underlying40 HI.out HZ1.out HZ2.out HZ3.out rfl (by omega) (.slice (some ⟨go, 0, none⟩) (m + 1) c1) (m + 1) ((a ++ [(ya, yb)]).map scell).flatten rfl (HWN.out.own.1.alloc _) _ (some ⟨wb.heap.size, 0, none⟩) 1 1 [.int .u16 (p : Nat), .int .u16 (LT : Nat)] rfl HRD.out (by simp [Value.oneCell']) (by unfold maxLen; omega) (by omega) (by simp; omega) ?_; intro A2 c2 wz hown hrd hgr hat; have HOWN := Lib.hid hown; have HGR := Lib.hid hgr; clear hown hrd hgr hat)
                have HWZ : Hid (MkW w wz ga gb gr A2 (m + 1 + 1) c2 O2 s t p) := Lib.hid (by
                  rw [HO3.out]
                  exact HWN.out.made (T := (Value.slice (some ⟨go, 0, none⟩) (m + 1) c1).ownBlock.toList) ⟨by rw [push_scell]; exact HOWN.out, by have := HAL.out; simp [this]⟩ (chg_app HGR.out) (fun k hk => by simpa using hk))
                clear HOWN HGR HWN HWb
                go_roundg (gk - 1)
                case measure => have := HGK.out; omega
                case rel => exact Lib.hid ⟨A2, m + 1 + 1, c2, O2, rfl, Lib.hid ⟨HWZ.out.own, HWZ.out.bel, HWZ.out.res, HWZ.out.ne, HWZ.out.la, HWZ.out.lb, HWZ.out.lr⟩, .inr ⟨0, rfl, rfl, Lib.hid ⟨HPC.out.1, fun q hq => HPC.out.2.2.2 q (by rw [HM.out]; exact hq)⟩⟩⟩
        · have e1 : IntKind.u16.wrap ((LT : Int) + 1) = ((LT + 1 : Nat) : Int) := by rw [IntKind.wrap_u16]; omega
          have e2 : ((LT : Int) != 65535) = true := by rw [bne_iff_ne]; omega
          have e3 : bits .xor .u16 IntKind.u16.max 0 = 65535 := by decide
          have HM : Hid (LT < 65535) := Lib.hid (by omega)
          clear hM
          cases hF : f R1 T1 with
          | false =>
            have HO : Hid (O2 = out) := Lib.hid (by have h := HPD.out; rw [hF] at h; exact h)
            have HWZ : Hid (MkW w wb ga gb gr A1 n1 c1 O2 s t p) := Lib.hid (by rw [HO.out]; exact HWb.out)
            clear HWb hF HPD
            go_wp2_with fail
            go_roundg (gk - 1)
            case measure => have := HGK.out; omega
            case rel => exact Lib.hid ⟨A1, n1, c1, O2, rfl, Lib.hid ⟨HWZ.out.own, HWZ.out.bel, HWZ.out.res, HWZ.out.ne, HWZ.out.la, HWZ.out.lb, HWZ.out.lr⟩, .inl ⟨LT + 1, by go_num, rfl, by have := HM.out; omega, Lib.hid ⟨(HWZ.out.le (by omega)).ra, (HWZ.out.le (by omega)).rb⟩, Lib.hid ⟨HPC.out.1, fun x hx => Nat.lt_succ_of_le (HPC.out.2.1 x hx), fun q hq => HPC.out.2.2.2 q (by omega), by have h1 := HPH.out (by exact HM.out); have h2 := HPL.out; have h3 := HPT.out.2.2.2; omega⟩, Lib.hid (by have := HGK.out; have := HM.out; omega)⟩⟩
          | true =>
            have HO : Hid (O2 = Sp.push out p LT) := Lib.hid (by have h := HPD.out; rw [hF] at h; exact h)
            clear hF HPD
            have hbnd : n1 ≤ 4398046511104 := by have h1 := HPT.out.2.2.2; have h2 := HN1.out; have h3 := HS.out.2.1; have h4 := HT.out.2.1; omega
            rcases Sp.snoc_or out with rfl | ⟨a, y, rfl⟩
            · obtain rfl : n1 = 0 := HN1.out.symm
              have HWN := Lib.hid HWb.out
              have HRD : Hid (Reads (wb.alloc (.cells (scell (p, LT)).toArray 46)) (wb.alloc (.cells (scell (p, LT)).toArray 46)).heap.size 2 (some ⟨wb.heap.size, 0, none⟩) 1 (scell (p, LT))) := Lib.hid (new_reads wb (p, LT))
              unfold scell at HRD
              simp only [] at HRD
              have hws : w.heap.size ≤ wb.heap.size := HWb.out.bel.size
              go_wp2_with (at_builtin; refine wpList_append_sl _ (by rfl) (.tmp 63) (.tmp 67) 40 rfl w.heap.size 46 i0 _ 2 4 Tryz.underlying40 HI.out HZ1.out HZ2.out HZ3.out rfl (by omega) (.slice A1 0 c1) 0 (([] : Sp.S).map scell).flatten rfl (HWN.out.own.1.alloc _) _ (some ⟨wb.heap.size, 0, none⟩) 1 1 [.int .u16 (p : Nat), .int .u16 (LT : Nat)] rfl HRD.out (by simp [Value.oneCell']) (by unfold maxLen; omega) (by omega) (by simp; omega) ?_; intro A2 c2 wz hown hrd hgr hat; have HOWN := Lib.hid hown; have HGR := Lib.hid hgr; clear hown hrd hgr hat)
              have HWZ : Hid (MkW w wz ga gb gr A2 1 c2 O2 s t p) := Lib.hid (by
                rw [HO.out, Sp.push_nil]
                exact HWN.out.made (T := (Value.slice A1 0 c1).ownBlock.toList) ⟨HOWN.out, rfl⟩ (chg_app HGR.out) (fun k hk => by simpa using hk))
              clear HOWN HGR HWN HWb
              go_roundg (gk - 1)
              case measure => have := HGK.out; omega
              case rel => exact Lib.hid ⟨A2, 1, c2, O2, rfl, Lib.hid ⟨HWZ.out.own, HWZ.out.bel, HWZ.out.res, HWZ.out.ne, HWZ.out.la, HWZ.out.lb, HWZ.out.lr⟩, .inl ⟨LT + 1, by go_num, rfl, by have := HM.out; omega, Lib.hid ⟨(HWZ.out.le (by omega)).ra, (HWZ.out.le (by omega)).rb⟩, Lib.hid ⟨HPC.out.1, fun x hx => Nat.lt_succ_of_le (HPC.out.2.1 x hx), fun q hq => HPC.out.2.2.2 q (by omega), by have h1 := HPH.out (by exact HM.out); have h2 := HPL.out; have h3 := HPT.out.2.2.2; omega⟩, Lib.hid (by have := HGK.out; have := HM.out; omega)⟩⟩
            · obtain ⟨m, rfl⟩ : ∃ m, n1 = m + 1 := ⟨a.length, by have := HN1.out; simp at this; omega⟩
              have hal : a.length = m := by have := HN1.out; simp at this; exact this
              have HAL := Lib.hid hal
              obtain ⟨go, rfl, hgo1, hgo2, hgo3, hgo4⟩ := own_somer HWb.out.own.1 (by omega)
              unfold maxLen at hgo4
              have hy := HPT.out.2.1 y (by simp)
              have cy : wb.cell? ⟨go, m * 2 + 1, none⟩ = some (.int .u16 (y.2 : Nat)) := by
                have h := HWb.out.own.1.cellAt (m * 2 + 1) (by omega)
                rw [h, List.map_append, List.flatten_append, List.getElem?_append_right (by rw [flat_len (s := 2) _ (scell_len a), List.length_map]; omega), flat_len (s := 2) _ (scell_len a), List.length_map, hal, show m * 2 + 1 - 2 * m = 1 by omega]
                rfl
              have zy : wb.frozen? ⟨go, m * 2 + 1, none⟩ = false := HWb.out.own.1.frozenAt _
              obtain ⟨ya, yb⟩ := y
              simp only at hy cy
              have e5 : IntKind.i64.wrap (((m : Int) + 1) - 1) = (m : Int) := by rw [IntKind.wrap_i64]; omega
              have e5' : (m : Int) + 1 - 1 = (m : Int) := by omega
              have e6 : IntKind.u16.wrap ((p : Int) - 1) = ((p - 1 : Nat) : Int) := by rw [IntKind.wrap_u16]; omega
              have e7 : (p : Int) - 1 = ((p - 1 : Nat) : Int) := by omega
              have hm0 : (0 : Int) ≤ (m : Int) := by omega
              clear hal
              by_cases hj : yb + 1 = p
              · have e8 : ((yb : Int) == ((p - 1 : Nat) : Int)) = true := by simp; omega
                have HO3 : Hid (O2 = a ++ [(ya, LT)]) := Lib.hid (by rw [HO.out, Sp.push_snoc, if_pos hj])
                have HWZ : Hid (MkW w (wb.setCell ⟨go, m * 2 + 1, none⟩ (.int .u16 (LT : Nat))) ga gb gr (some ⟨go, 0, none⟩) (m + 1) c1 O2 s t p) := Lib.hid (by
                  rw [HO3.out]
                  refine HWb.out.made (T := [go]) ⟨?_, by have := HAL.out; simp [this]⟩ ((Chg.refl [go] wb).set_ (p := ⟨go, m * 2 + 1, none⟩) (.inl (by simp)) _) (fun k hk => by rw [List.mem_singleton.1 hk]; rfl)
                  have h := (HWb.out.own.1.stored (2 * m + 1) (.int .u16 (LT : Nat))).1
                  rw [← HAL.out, set_scell, HAL.out] at h
                  rw [show m * 2 + 1 = 2 * m + 1 by omega]
                  exact h)
                clear hj HWb
                go_wp2_with fail
                go_roundg (gk - 1)
                case measure => have := HGK.out; omega
                case rel => exact Lib.hid ⟨_, m + 1, c1, O2, rfl, Lib.hid ⟨HWZ.out.own, HWZ.out.bel, HWZ.out.res, HWZ.out.ne, HWZ.out.la, HWZ.out.lb, HWZ.out.lr⟩, .inl ⟨LT + 1, by go_num, rfl, by have := HM.out; omega, Lib.hid ⟨(HWZ.out.le (by omega)).ra, (HWZ.out.le (by omega)).rb⟩, Lib.hid ⟨HPC.out.1, fun x hx => Nat.lt_succ_of_le (HPC.out.2.1 x hx), fun q hq => HPC.out.2.2.2 q (by omega), by have h1 := HPH.out (by exact HM.out); have h2 := HPL.out; have h3 := HPT.out.2.2.2; omega⟩, Lib.hid (by have := HGK.out; have := HM.out; omega)⟩⟩
              · have e8 : ((yb : Int) == ((p - 1 : Nat) : Int)) = false := by simp; omega
                have HO3 : Hid (O2 = a ++ [(ya, yb)] ++ [(p, LT)]) := Lib.hid (by rw [HO.out, Sp.push_snoc, if_neg hj])
                have HWN := Lib.hid HWb.out
                have HRD : Hid (Reads (wb.alloc (.cells (scell (p, LT)).toArray 46)) (wb.alloc (.cells (scell (p, LT)).toArray 46)).heap.size 2 (some ⟨wb.heap.size, 0, none⟩) 1 (scell (p, LT))) := Lib.hid (new_reads wb (p, LT))
                unfold scell at HRD
                simp only [] at HRD
                have hws : w.heap.size ≤ wb.heap.size := HWb.out.bel.size
                clear hj
                go_wp2_with (at_builtin; refine wpList_append_sl _ (by rfl) (.tmp 63) (.tmp 67) 40 rfl w.heap.size 46 i0 _ 2 4 Tryz.underlying40 HI.out HZ1.out HZ2.out HZ3.out rfl (by omega) (.slice (some ⟨go, 0, none⟩) (m + 1) c1) (m + 1) ((a ++ [(ya, yb)]).map scell).flatten rfl (HWN.out.own.1.alloc _) _ (some ⟨wb.heap.size, 0, none⟩) 1 1 [.int .u16 (p : Nat), .int .u16 (LT : Nat)] rfl HRD.out (by simp [Value.oneCell']) (by unfold maxLen; omega) (by omega) (by simp; omega) ?_; intro A2 c2 wz hown hrd hgr hat; have HOWN := Lib.hid hown; have HGR := Lib.hid hgr; clear hown hrd hgr hat)
                have HWZ : Hid (MkW w wz ga gb gr A2 (m + 1 + 1) c2 O2 s t p) := Lib.hid (by
                  rw [HO3.out]
                  exact HWN.out.made (T := (Value.slice (some ⟨go, 0, none⟩) (m + 1) c1).ownBlock.toList) ⟨by rw [push_scell]; exact HOWN.out, by have := HAL.out; simp [this]⟩ (chg_app HGR.out) (fun k hk => by simpa using hk))
                clear HOWN HGR HWN HWb
                go_roundg (gk - 1)
                case measure => have := HGK.out; omega
                case rel => exact Lib.hid ⟨A2, m + 1 + 1, c2, O2, rfl, Lib.hid ⟨HWZ.out.own, HWZ.out.bel, HWZ.out.res, HWZ.out.ne, HWZ.out.la, HWZ.out.lb, HWZ.out.lr⟩, .inl ⟨LT + 1, by go_num, rfl, by have := HM.out; omega, Lib.hid ⟨(HWZ.out.le (by omega)).ra, (HWZ.out.le (by omega)).rb⟩, Lib.hid ⟨HPC.out.1, fun x hx => Nat.lt_succ_of_le (HPC.out.2.1 x hx), fun q hq => HPC.out.2.2.2 q (by omega), by have h1 := HPH.out (by exact HM.out); have h2 := HPL.out; have h3 := HPT.out.2.2.2; omega⟩, Lib.hid (by have := HGK.out; have := HM.out; omega)⟩⟩
      · clear hrel
        have r2 := HO.out.2.2.1
        have c0 := r2.cell 0
        have f0 := r2.frozen 0
        have hl2 := r2.lt
        simp only [List.getElem?_cons_zero] at c0
        have HR3 : Hid (Row (wr.setCell ⟨gr, 0, none⟩ (.slice A1 n1 c1)) gr 42 [.slice A1 n1 c1]) := Lib.hid (r2.set_ 0 _)
        have HO2 : Hid (OwnS (wr.setCell ⟨gr, 0, none⟩ (.slice A1 n1 c1)) w.heap.size A1 n1 c1 out ∧ Below w.heap.size w (wr.setCell ⟨gr, 0, none⟩ (.slice A1 n1 c1))) := Lib.hid ⟨⟨own_setr HO.out.1.1 r2 (by decide) 0 _, HO.out.1.2⟩, HO.out.2.1.setCell (p := ⟨gr, 0, none⟩) hgr0 _⟩
        have c2 := HR3.out.cell 0
        simp only [List.getElem?_cons_zero] at c2
        clear r2
        go_wp2_with fail
        refine bodyPost_ret (v := .agg #[.slice A1 n1 c1]) (by simp [results, Tryz.results142, go_sem, c2]) rfl ⟨A1, n1, c1, out, rfl, HO2.out.1, HMK.out, HO2.out.2⟩
end S16
end Go.Proofs.YtchajbegjajlkaaGreat

/- The walk of a set's make, with the closure of Less. -/
set_option linter.unusedVariables false
set_option linter.unusedSimpArgs false
namespace Go.Proofs.YtchajbegjajlkaaGreat
open Go.RowKit
namespace S16
set_option maxRecDepth 100000 in
set_option maxHeartbeats 2000000 in
theorem make_less (f : Bool → Bool → Bool) (A A' : Option Addr) (n c n' c' : Nat) (s t : Sp.S) (w : World) (hk : Keeps 145 f) (hs : IsS w w.heap.size A n s) (ht : IsS w w.heap.size A' n' t) (hc : n ≤ c) (hcm : c ≤ 9223372036854775807) (hc' : n' ≤ c') (hcm' : c' ≤ 9223372036854775807) (hns : Sp.Nrm TOP s) (hnt : Sp.Nrm TOP t) (hsm : n + n' ≤ 2199023255552) :
    Calls Tryz.prog 142 #[.agg #[.slice A n c], .agg #[.slice A' n' c'], .func (.func 145) #[] #[]] w fun e w' => ∃ Ao no co out, e = .returned (.agg #[.slice Ao no co]) ∧ OwnS w' w.heap.size Ao no co out ∧ Sp.Mk TOP f s t out ∧ Below w.heap.size w w' := by
  obtain ⟨i0, hi0, hz1, hz2, hz3⟩ := info_parts infoSp
  have HI := Lib.hid hi0; have HZ1 := Lib.hid hz1; have HZ2 := Lib.hid hz2; have HZ3 := Lib.hid hz3
  have HK := Lib.hid hk; have HS := Lib.hid hs; have HT := Lib.hid ht; have HNS := Lib.hid hns; have HNT := Lib.hid hnt
  clear hi0 hz1 hz2 hz3 hk hs ht hns hnt
  go_enter Tryz.func142, Tryz.ntmps142
  go_upto_region 1 with fail
  have r0 : Row (((w.alloc (.cells #[.slice A n c] 42)).alloc (.cells #[.slice A' n' c'] 42)).alloc (.cells #[.slice none 0 0] 42)) w.heap.size 42 [.slice A n c] := ((Row.new w _ [.slice A n c]).alloc _).alloc _
  have r1 : Row (((w.alloc (.cells #[.slice A n c] 42)).alloc (.cells #[.slice A' n' c'] 42)).alloc (.cells #[.slice none 0 0] 42)) (w.heap.size + 1) 42 [.slice A' n' c'] := by
    have h := (Row.new (w.alloc (.cells #[.slice A n c] 42)) 42 [.slice A' n' c']).alloc (.cells #[.slice none 0 0] 42)
    rw [show (w.alloc (.cells #[.slice A n c] 42)).heap.size = w.heap.size + 1 by simp] at h
    exact h
  have r2 : Row (((w.alloc (.cells #[.slice A n c] 42)).alloc (.cells #[.slice A' n' c'] 42)).alloc (.cells #[.slice none 0 0] 42)) (w.heap.size + 1 + 1) 42 [.slice none 0 0] := by
    have h := Row.new ((w.alloc (.cells #[.slice A n c] 42)).alloc (.cells #[.slice A' n' c'] 42)) 42 [.slice none 0 0]
    rw [show ((w.alloc (.cells #[.slice A n c] 42)).alloc (.cells #[.slice A' n' c'] 42)).heap.size = w.heap.size + 1 + 1 by simp] at h
    exact h
  have hb3 : Below w.heap.size w (((w.alloc (.cells #[.slice A n c] 42)).alloc (.cells #[.slice A' n' c'] 42)).alloc (.cells #[.slice none 0 0] 42)) := (((Below.refl _ _).alloc (Nat.le_refl _) _).alloc (by simp) _).alloc (by simp; omega) _
  have c0 := r0.cell 0
  have c1 := r1.cell 0
  simp only [List.getElem?_cons_zero] at c0 c1
  have hl0 := r0.lt
  have hl1 := r1.lt
  have hl2 := r2.lt
  obtain ⟨gr, hgr⟩ : ∃ gr, gr = w.heap.size + 1 + 1 := ⟨_, rfl⟩
  rw [← hgr] at r2 hl2 ⊢
  have hgr0 : w.heap.size ≤ gr := by omega
  generalize ((w.alloc (.cells #[.slice A n c] 42)).alloc (.cells #[.slice A' n' c'] 42)).alloc (.cells #[.slice none 0 0] 42) = w3 at *
  have HR2 := Lib.hid r2; have HB3 := Lib.hid hb3
  clear r0 r1 r2 hb3 hgr
  go_cut [7, 8] (fun x y wx => ∃ ga gb : Nat, x = .pointer (some ⟨ga, 0, none⟩) ∧ y = .pointer (some ⟨gb, 0, none⟩) ∧ Hid (ga ≠ gb ∧ w.heap.size ≤ ga ∧ w.heap.size ≤ gb ∧ Row wx ga 273 [.slice A n c] ∧ Row wx gb 273 [.slice A' n' c'] ∧ Below w3.heap.size w3 wx))
  case first =>
    go_region
    all_goals
      go_wp2_with fail
      go_meet
      case rel =>
        first
          | exact ⟨_, _, rfl, rfl, Lib.hid ⟨by omega, by omega, by omega, (two_rows w3 _ _ _).1, (two_rows w3 _ _ _).2.1, (two_rows w3 _ _ _).2.2⟩⟩
          | exact ⟨_, _, rfl, rfl, Lib.hid ⟨by omega, by omega, by omega, (two_rows w3 _ _ _).2.1, (two_rows w3 _ _ _).1, (two_rows w3 _ _ _).2.2⟩⟩
  case rest =>
    obtain ⟨ga, gb, rfl, rfl, HG⟩ := hcut
    clear c0 c1 hl0 hl1
    have HBW : Hid (Below w.heap.size w wc) := Lib.hid (HB3.out.trans (HG.out.2.2.2.2.2.mono HB3.out.size))
    have HI0 : Hid (MkI w wc f ga gb gr s t 18446744073709551617 (.slice none 0 0) (.int .u16 0) (.bool true)) := Lib.hid (by
      obtain ⟨g1, g2, g3, g4, g5, g6⟩ := HG.out
      refine ⟨none, 0, 0, [], rfl, Lib.hid ⟨⟨World.ownsRow_nil _ _ _ _, rfl⟩, HBW.out, HR2.out.below g6 HR2.out.lt, g1, g2, g3, hgr0⟩, .inl ⟨0, rfl, rfl, by omega, Lib.hid ⟨⟨A, n, c, 0, by omega, g4, by rw [from_zero]; exact HS.out.below HBW.out, hc, hcm⟩, ⟨A', n', c', 0, by omega, g5, by rw [from_zero]; exact HT.out.below HBW.out, hc', hcm'⟩⟩, Lib.hid ⟨Sp.Nrm.nil _, by simp, by omega, by have h1 := Sp.phi_le s 0; have h2 := Sp.phi_le t 0; simp only [List.length_nil]; omega⟩, Lib.hid (by omega)⟩⟩)
    clear HG HBW HB3 HR2 hl2
    go_wp2_with fail
    go_loopg [9, 10, 11] 18446744073709551617 (fun k o p m wr => Hid (MkI w wr f ga gb gr s t k o p m))
    case atStart => exact HI0
    case round =>
      clear HI0
      obtain ⟨A1, n1, c1, out, rfl, HO, hr2⟩ := hrel.out
      rcases hr2 with ⟨p, rfl, rfl, hp, HRA, HPT, HGK⟩ | ⟨p, rfl, rfl, HMK⟩
      · have hmk : MkW w wr ga gb gr A1 n1 c1 out s t p := ⟨HO.out.1, HO.out.2.1, HO.out.2.2.1, HO.out.2.2.2.1, HO.out.2.2.2.2.1, HO.out.2.2.2.2.2.1, HO.out.2.2.2.2.2.2, HRA.out.1, HRA.out.2⟩
        have HW := Lib.hid hmk
        have HN1 : Hid (out.length = n1) := Lib.hid HO.out.1.2
        clear hrel hmk HO HRA
        obtain ⟨R, hR⟩ : ∃ R, R = Sp.look TOP s p := ⟨_, rfl⟩
        obtain ⟨T, hT⟩ : ∃ T, T = Sp.look TOP t p := ⟨_, rfl⟩
        have hpc := Sp.piece_ok (f := f) HNS.out HNT.out HPT.out.1 hp HPT.out.2.1 HPT.out.2.2.1
        have hph := Sp.round_phi HNS.out HNT.out hp
        have hpl := Sp.piece_len f TOP s t out p
        have hpd : Sp.piece f TOP s t out p = if f R.1 T.1 then Sp.push out p (min R.2 T.2) else out := by rw [hR, hT]; rfl
        rw [← hR, ← hT] at hpc hph
        obtain ⟨O2, hO2⟩ : ∃ O2, O2 = Sp.piece f TOP s t out p := ⟨_, rfl⟩
        rw [← hO2] at hpc hpl hpd
        have HA1 := Lib.hid (at_row HW.out.ra HW.out.la HNS.out hp)
        rw [← hR] at HA1
        have HA2 : Hid (∀ wx, MkW w wx ga gb gr A1 n1 c1 out s t p → Calls Tryz.prog 239 #[.pointer (some ⟨gb, 0, none⟩), .int .u16 (p : Nat)] wx fun e w' => e = .returned (.tuple #[.bool T.1, .int .u16 (T.2 : Nat)]) ∧ RowAt w' w.heap.size gb p t ∧ Chg [gb] wx w') := Lib.hid fun wx hx => by
          have h := at_row hx.rb hx.lb HNT.out hp
          rw [← hT] at h
          exact h
        obtain ⟨R1, R2⟩ := R
        obtain ⟨T1, T2⟩ := T
        simp only at hpc hph hpd HA1 HA2
        obtain ⟨LT, hLT⟩ : ∃ LT, LT = min R2 T2 := ⟨_, rfl⟩
        rw [← hLT] at hpc hph hpd
        have hlt1 := hpc.2.2.1.1
        have hlt2 : LT ≤ 65535 := hpc.2.2.1.2
        have HLT := Lib.hid hLT
        clear hLT
        have HPC := Lib.hid hpc; have HPH := Lib.hid hph; have HPD := Lib.hid hpd; have HPL := Lib.hid hpl
        clear hR hT hpc hph hpd hpl hO2
        go_wp2_with fail
        refine HA1.out.mono ?_
        rintro e wa ⟨rfl, hra, hca⟩
        have HWa := Lib.hid (HW.out.at_a hra hca)
        clear hra hca HA1 HW
        go_wp2_with fail
        refine (HA2.out _ HWa.out).mono ?_
        rintro e wb ⟨rfl, hrb, hcb⟩
        have HWb := Lib.hid (HWa.out.at_b hrb hcb)
        clear hrb hcb HA2 HWa
        go_upto_region 7 with fail
        go_cut [13] (fun x wx => x = .int .u16 (LT : Nat) ∧ wx = wb)
        case first =>
          by_cases hle : R2 ≤ T2
          · obtain rfl : LT = R2 := by have := HLT.out; omega
            go_wp2_with fail
            all_goals
              go_meet
              case rel => exact ⟨by go_num, rfl⟩
          · obtain rfl : LT = T2 := by have := HLT.out; omega
            go_wp2_with fail
            all_goals
              go_meet
              case rel => exact ⟨by go_num, rfl⟩
        case rest =>
        obtain ⟨rfl, hwx⟩ := hcut
        rw [hwx]
        clear hwx
        go_wp2_with fail
        refine (HK.out R1 T1 wb).mono ?_
        rintro e w' ⟨rfl, rfl⟩
        by_cases hM : LT = 65535
        · have e1 : IntKind.u16.wrap ((LT : Int) + 1) = 0 := by rw [IntKind.wrap_u16]; omega
          have e2 : ((LT : Int) != 65535) = false := by rw [bne_eq_false_iff_eq]; omega
          have e3 : bits .xor .u16 IntKind.u16.max 0 = 65535 := by decide
          have HM := Lib.hid hM
          clear hM
          cases hF : f R1 T1 with
          | false =>
            have HO : Hid (O2 = out) := Lib.hid (by have h := HPD.out; rw [hF] at h; exact h)
            have HWZ : Hid (MkW w wb ga gb gr A1 n1 c1 O2 s t p) := Lib.hid (by rw [HO.out]; exact HWb.out)
            clear HWb hF HPD
            go_wp2_with fail
            go_roundg (gk - 1)
            case measure => have := HGK.out; omega
            case rel => exact Lib.hid ⟨A1, n1, c1, O2, rfl, Lib.hid ⟨HWZ.out.own, HWZ.out.bel, HWZ.out.res, HWZ.out.ne, HWZ.out.la, HWZ.out.lb, HWZ.out.lr⟩, .inr ⟨0, rfl, rfl, Lib.hid ⟨HPC.out.1, fun q hq => HPC.out.2.2.2 q (by rw [HM.out]; exact hq)⟩⟩⟩
          | true =>
            have HO : Hid (O2 = Sp.push out p LT) := Lib.hid (by have h := HPD.out; rw [hF] at h; exact h)
            clear hF HPD
            have hbnd : n1 ≤ 4398046511104 := by have h1 := HPT.out.2.2.2; have h2 := HN1.out; have h3 := HS.out.2.1; have h4 := HT.out.2.1; omega
            rcases Sp.snoc_or out with rfl | ⟨a, y, rfl⟩
            · obtain rfl : n1 = 0 := HN1.out.symm
              have HWN := Lib.hid HWb.out
              have HRD : Hid (Reads (wb.alloc (.cells (scell (p, LT)).toArray 46)) (wb.alloc (.cells (scell (p, LT)).toArray 46)).heap.size 2 (some ⟨wb.heap.size, 0, none⟩) 1 (scell (p, LT))) := Lib.hid (new_reads wb (p, LT))
              unfold scell at HRD
              simp only [] at HRD
              have hws : w.heap.size ≤ wb.heap.size := HWb.out.bel.size
              go_wp2_with (at_builtin; refine wpList_append_sl _ (by rfl) (.tmp 63) (.tmp 67) 40 rfl w.heap.size 46 i0 _ 2 4 Tryz.underlying40 HI.out HZ1.out HZ2.out HZ3.out rfl (by omega) (.slice A1 0 c1) 0 (([] : Sp.S).map scell).flatten rfl (HWN.out.own.1.alloc _) _ (some ⟨wb.heap.size, 0, none⟩) 1 1 [.int .u16 (p : Nat), .int .u16 (LT : Nat)] rfl HRD.out (by simp [Value.oneCell']) (by unfold maxLen; omega) (by omega) (by simp; omega) ?_; intro A2 c2 wz hown hrd hgr hat; have HOWN := Lib.hid hown; have HGR := Lib.hid hgr; clear hown hrd hgr hat)
              have HWZ : Hid (MkW w wz ga gb gr A2 1 c2 O2 s t p) := Lib.hid (by
                rw [HO.out, Sp.push_nil]
                exact HWN.out.made (T := (Value.slice A1 0 c1).ownBlock.toList) ⟨HOWN.out, rfl⟩ (chg_app HGR.out) (fun k hk => by simpa using hk))
              clear HOWN HGR HWN HWb
              go_roundg (gk - 1)
              case measure => have := HGK.out; omega
              case rel => exact Lib.hid ⟨A2, 1, c2, O2, rfl, Lib.hid ⟨HWZ.out.own, HWZ.out.bel, HWZ.out.res, HWZ.out.ne, HWZ.out.la, HWZ.out.lb, HWZ.out.lr⟩, .inr ⟨0, rfl, rfl, Lib.hid ⟨HPC.out.1, fun q hq => HPC.out.2.2.2 q (by rw [HM.out]; exact hq)⟩⟩⟩
            · obtain ⟨m, rfl⟩ : ∃ m, n1 = m + 1 := ⟨a.length, by have := HN1.out; simp at this; omega⟩
              have hal : a.length = m := by have := HN1.out; simp at this; exact this
              have HAL := Lib.hid hal
              obtain ⟨go, rfl, hgo1, hgo2, hgo3, hgo4⟩ := own_somer HWb.out.own.1 (by omega)
              unfold maxLen at hgo4
              have hy := HPT.out.2.1 y (by simp)
              have cy : wb.cell? ⟨go, m * 2 + 1, none⟩ = some (.int .u16 (y.2 : Nat)) := by
                have h := HWb.out.own.1.cellAt (m * 2 + 1) (by omega)
                rw [h, List.map_append, List.flatten_append, List.getElem?_append_right (by rw [flat_len (s := 2) _ (scell_len a), List.length_map]; omega), flat_len (s := 2) _ (scell_len a), List.length_map, hal, show m * 2 + 1 - 2 * m = 1 by omega]
                rfl
              have zy : wb.frozen? ⟨go, m * 2 + 1, none⟩ = false := HWb.out.own.1.frozenAt _
              obtain ⟨ya, yb⟩ := y
              simp only at hy cy
              have e5 : IntKind.i64.wrap (((m : Int) + 1) - 1) = (m : Int) := by rw [IntKind.wrap_i64]; omega
              have e5' : (m : Int) + 1 - 1 = (m : Int) := by omega
              have e6 : IntKind.u16.wrap ((p : Int) - 1) = ((p - 1 : Nat) : Int) := by rw [IntKind.wrap_u16]; omega
              have e7 : (p : Int) - 1 = ((p - 1 : Nat) : Int) := by omega
              have hm0 : (0 : Int) ≤ (m : Int) := by omega
              clear hal
              by_cases hj : yb + 1 = p
              · have e8 : ((yb : Int) == ((p - 1 : Nat) : Int)) = true := by simp; omega
                have HO3 : Hid (O2 = a ++ [(ya, LT)]) := Lib.hid (by rw [HO.out, Sp.push_snoc, if_pos hj])
                have HWZ : Hid (MkW w (wb.setCell ⟨go, m * 2 + 1, none⟩ (.int .u16 (LT : Nat))) ga gb gr (some ⟨go, 0, none⟩) (m + 1) c1 O2 s t p) := Lib.hid (by
                  rw [HO3.out]
                  refine HWb.out.made (T := [go]) ⟨?_, by have := HAL.out; simp [this]⟩ ((Chg.refl [go] wb).set_ (p := ⟨go, m * 2 + 1, none⟩) (.inl (by simp)) _) (fun k hk => by rw [List.mem_singleton.1 hk]; rfl)
                  have h := (HWb.out.own.1.stored (2 * m + 1) (.int .u16 (LT : Nat))).1
                  rw [← HAL.out, set_scell, HAL.out] at h
                  rw [show m * 2 + 1 = 2 * m + 1 by omega]
                  exact h)
                clear hj HWb
                go_wp2_with fail
                go_roundg (gk - 1)
                case measure => have := HGK.out; omega
                case rel => exact Lib.hid ⟨_, m + 1, c1, O2, rfl, Lib.hid ⟨HWZ.out.own, HWZ.out.bel, HWZ.out.res, HWZ.out.ne, HWZ.out.la, HWZ.out.lb, HWZ.out.lr⟩, .inr ⟨0, rfl, rfl, Lib.hid ⟨HPC.out.1, fun q hq => HPC.out.2.2.2 q (by rw [HM.out]; exact hq)⟩⟩⟩
              · have e8 : ((yb : Int) == ((p - 1 : Nat) : Int)) = false := by simp; omega
                have HO3 : Hid (O2 = a ++ [(ya, yb)] ++ [(p, LT)]) := Lib.hid (by rw [HO.out, Sp.push_snoc, if_neg hj])
                have HWN := Lib.hid HWb.out
                have HRD : Hid (Reads (wb.alloc (.cells (scell (p, LT)).toArray 46)) (wb.alloc (.cells (scell (p, LT)).toArray 46)).heap.size 2 (some ⟨wb.heap.size, 0, none⟩) 1 (scell (p, LT))) := Lib.hid (new_reads wb (p, LT))
                unfold scell at HRD
                simp only [] at HRD
                have hws : w.heap.size ≤ wb.heap.size := HWb.out.bel.size
                clear hj
                go_wp2_with (at_builtin; refine wpList_append_sl _ (by rfl) (.tmp 63) (.tmp 67) 40 rfl w.heap.size 46 i0 _ 2 4 Tryz.underlying40 HI.out HZ1.out HZ2.out HZ3.out rfl (by omega) (.slice (some ⟨go, 0, none⟩) (m + 1) c1) (m + 1) ((a ++ [(ya, yb)]).map scell).flatten rfl (HWN.out.own.1.alloc _) _ (some ⟨wb.heap.size, 0, none⟩) 1 1 [.int .u16 (p : Nat), .int .u16 (LT : Nat)] rfl HRD.out (by simp [Value.oneCell']) (by unfold maxLen; omega) (by omega) (by simp; omega) ?_; intro A2 c2 wz hown hrd hgr hat; have HOWN := Lib.hid hown; have HGR := Lib.hid hgr; clear hown hrd hgr hat)
                have HWZ : Hid (MkW w wz ga gb gr A2 (m + 1 + 1) c2 O2 s t p) := Lib.hid (by
                  rw [HO3.out]
                  exact HWN.out.made (T := (Value.slice (some ⟨go, 0, none⟩) (m + 1) c1).ownBlock.toList) ⟨by rw [push_scell]; exact HOWN.out, by have := HAL.out; simp [this]⟩ (chg_app HGR.out) (fun k hk => by simpa using hk))
                clear HOWN HGR HWN HWb
                go_roundg (gk - 1)
                case measure => have := HGK.out; omega
                case rel => exact Lib.hid ⟨A2, m + 1 + 1, c2, O2, rfl, Lib.hid ⟨HWZ.out.own, HWZ.out.bel, HWZ.out.res, HWZ.out.ne, HWZ.out.la, HWZ.out.lb, HWZ.out.lr⟩, .inr ⟨0, rfl, rfl, Lib.hid ⟨HPC.out.1, fun q hq => HPC.out.2.2.2 q (by rw [HM.out]; exact hq)⟩⟩⟩
        · have e1 : IntKind.u16.wrap ((LT : Int) + 1) = ((LT + 1 : Nat) : Int) := by rw [IntKind.wrap_u16]; omega
          have e2 : ((LT : Int) != 65535) = true := by rw [bne_iff_ne]; omega
          have e3 : bits .xor .u16 IntKind.u16.max 0 = 65535 := by decide
          have HM : Hid (LT < 65535) := Lib.hid (by omega)
          clear hM
          cases hF : f R1 T1 with
          | false =>
            have HO : Hid (O2 = out) := Lib.hid (by have h := HPD.out; rw [hF] at h; exact h)
            have HWZ : Hid (MkW w wb ga gb gr A1 n1 c1 O2 s t p) := Lib.hid (by rw [HO.out]; exact HWb.out)
            clear HWb hF HPD
            go_wp2_with fail
            go_roundg (gk - 1)
            case measure => have := HGK.out; omega
            case rel => exact Lib.hid ⟨A1, n1, c1, O2, rfl, Lib.hid ⟨HWZ.out.own, HWZ.out.bel, HWZ.out.res, HWZ.out.ne, HWZ.out.la, HWZ.out.lb, HWZ.out.lr⟩, .inl ⟨LT + 1, by go_num, rfl, by have := HM.out; omega, Lib.hid ⟨(HWZ.out.le (by omega)).ra, (HWZ.out.le (by omega)).rb⟩, Lib.hid ⟨HPC.out.1, fun x hx => Nat.lt_succ_of_le (HPC.out.2.1 x hx), fun q hq => HPC.out.2.2.2 q (by omega), by have h1 := HPH.out (by exact HM.out); have h2 := HPL.out; have h3 := HPT.out.2.2.2; omega⟩, Lib.hid (by have := HGK.out; have := HM.out; omega)⟩⟩
          | true =>
            have HO : Hid (O2 = Sp.push out p LT) := Lib.hid (by have h := HPD.out; rw [hF] at h; exact h)
            clear hF HPD
            have hbnd : n1 ≤ 4398046511104 := by have h1 := HPT.out.2.2.2; have h2 := HN1.out; have h3 := HS.out.2.1; have h4 := HT.out.2.1; omega
            rcases Sp.snoc_or out with rfl | ⟨a, y, rfl⟩
            · obtain rfl : n1 = 0 := HN1.out.symm
              have HWN := Lib.hid HWb.out
              have HRD : Hid (Reads (wb.alloc (.cells (scell (p, LT)).toArray 46)) (wb.alloc (.cells (scell (p, LT)).toArray 46)).heap.size 2 (some ⟨wb.heap.size, 0, none⟩) 1 (scell (p, LT))) := Lib.hid (new_reads wb (p, LT))
              unfold scell at HRD
              simp only [] at HRD
              have hws : w.heap.size ≤ wb.heap.size := HWb.out.bel.size
              go_wp2_with (at_builtin; refine wpList_append_sl _ (by rfl) (.tmp 63) (.tmp 67) 40 rfl w.heap.size 46 i0 _ 2 4 Tryz.underlying40 HI.out HZ1.out HZ2.out HZ3.out rfl (by omega) (.slice A1 0 c1) 0 (([] : Sp.S).map scell).flatten rfl (HWN.out.own.1.alloc _) _ (some ⟨wb.heap.size, 0, none⟩) 1 1 [.int .u16 (p : Nat), .int .u16 (LT : Nat)] rfl HRD.out (by simp [Value.oneCell']) (by unfold maxLen; omega) (by omega) (by simp; omega) ?_; intro A2 c2 wz hown hrd hgr hat; have HOWN := Lib.hid hown; have HGR := Lib.hid hgr; clear hown hrd hgr hat)
              have HWZ : Hid (MkW w wz ga gb gr A2 1 c2 O2 s t p) := Lib.hid (by
                rw [HO.out, Sp.push_nil]
                exact HWN.out.made (T := (Value.slice A1 0 c1).ownBlock.toList) ⟨HOWN.out, rfl⟩ (chg_app HGR.out) (fun k hk => by simpa using hk))
              clear HOWN HGR HWN HWb
              go_roundg (gk - 1)
              case measure => have := HGK.out; omega
              case rel => exact Lib.hid ⟨A2, 1, c2, O2, rfl, Lib.hid ⟨HWZ.out.own, HWZ.out.bel, HWZ.out.res, HWZ.out.ne, HWZ.out.la, HWZ.out.lb, HWZ.out.lr⟩, .inl ⟨LT + 1, by go_num, rfl, by have := HM.out; omega, Lib.hid ⟨(HWZ.out.le (by omega)).ra, (HWZ.out.le (by omega)).rb⟩, Lib.hid ⟨HPC.out.1, fun x hx => Nat.lt_succ_of_le (HPC.out.2.1 x hx), fun q hq => HPC.out.2.2.2 q (by omega), by have h1 := HPH.out (by exact HM.out); have h2 := HPL.out; have h3 := HPT.out.2.2.2; omega⟩, Lib.hid (by have := HGK.out; have := HM.out; omega)⟩⟩
            · obtain ⟨m, rfl⟩ : ∃ m, n1 = m + 1 := ⟨a.length, by have := HN1.out; simp at this; omega⟩
              have hal : a.length = m := by have := HN1.out; simp at this; exact this
              have HAL := Lib.hid hal
              obtain ⟨go, rfl, hgo1, hgo2, hgo3, hgo4⟩ := own_somer HWb.out.own.1 (by omega)
              unfold maxLen at hgo4
              have hy := HPT.out.2.1 y (by simp)
              have cy : wb.cell? ⟨go, m * 2 + 1, none⟩ = some (.int .u16 (y.2 : Nat)) := by
                have h := HWb.out.own.1.cellAt (m * 2 + 1) (by omega)
                rw [h, List.map_append, List.flatten_append, List.getElem?_append_right (by rw [flat_len (s := 2) _ (scell_len a), List.length_map]; omega), flat_len (s := 2) _ (scell_len a), List.length_map, hal, show m * 2 + 1 - 2 * m = 1 by omega]
                rfl
              have zy : wb.frozen? ⟨go, m * 2 + 1, none⟩ = false := HWb.out.own.1.frozenAt _
              obtain ⟨ya, yb⟩ := y
              simp only at hy cy
              have e5 : IntKind.i64.wrap (((m : Int) + 1) - 1) = (m : Int) := by rw [IntKind.wrap_i64]; omega
              have e5' : (m : Int) + 1 - 1 = (m : Int) := by omega
              have e6 : IntKind.u16.wrap ((p : Int) - 1) = ((p - 1 : Nat) : Int) := by rw [IntKind.wrap_u16]; omega
              have e7 : (p : Int) - 1 = ((p - 1 : Nat) : Int) := by omega
              have hm0 : (0 : Int) ≤ (m : Int) := by omega
              clear hal
              by_cases hj : yb + 1 = p
              · have e8 : ((yb : Int) == ((p - 1 : Nat) : Int)) = true := by simp; omega
                have HO3 : Hid (O2 = a ++ [(ya, LT)]) := Lib.hid (by rw [HO.out, Sp.push_snoc, if_pos hj])
                have HWZ : Hid (MkW w (wb.setCell ⟨go, m * 2 + 1, none⟩ (.int .u16 (LT : Nat))) ga gb gr (some ⟨go, 0, none⟩) (m + 1) c1 O2 s t p) := Lib.hid (by
                  rw [HO3.out]
                  refine HWb.out.made (T := [go]) ⟨?_, by have := HAL.out; simp [this]⟩ ((Chg.refl [go] wb).set_ (p := ⟨go, m * 2 + 1, none⟩) (.inl (by simp)) _) (fun k hk => by rw [List.mem_singleton.1 hk]; rfl)
                  have h := (HWb.out.own.1.stored (2 * m + 1) (.int .u16 (LT : Nat))).1
                  rw [← HAL.out, set_scell, HAL.out] at h
                  rw [show m * 2 + 1 = 2 * m + 1 by omega]
                  exact h)
                clear hj HWb
                go_wp2_with fail
                go_roundg (gk - 1)
                case measure => have := HGK.out; omega
                case rel => exact Lib.hid ⟨_, m + 1, c1, O2, rfl, Lib.hid ⟨HWZ.out.own, HWZ.out.bel, HWZ.out.res, HWZ.out.ne, HWZ.out.la, HWZ.out.lb, HWZ.out.lr⟩, .inl ⟨LT + 1, by go_num, rfl, by have := HM.out; omega, Lib.hid ⟨(HWZ.out.le (by omega)).ra, (HWZ.out.le (by omega)).rb⟩, Lib.hid ⟨HPC.out.1, fun x hx => Nat.lt_succ_of_le (HPC.out.2.1 x hx), fun q hq => HPC.out.2.2.2 q (by omega), by have h1 := HPH.out (by exact HM.out); have h2 := HPL.out; have h3 := HPT.out.2.2.2; omega⟩, Lib.hid (by have := HGK.out; have := HM.out; omega)⟩⟩
              · have e8 : ((yb : Int) == ((p - 1 : Nat) : Int)) = false := by simp; omega
                have HO3 : Hid (O2 = a ++ [(ya, yb)] ++ [(p, LT)]) := Lib.hid (by rw [HO.out, Sp.push_snoc, if_neg hj])
                have HWN := Lib.hid HWb.out
                have HRD : Hid (Reads (wb.alloc (.cells (scell (p, LT)).toArray 46)) (wb.alloc (.cells (scell (p, LT)).toArray 46)).heap.size 2 (some ⟨wb.heap.size, 0, none⟩) 1 (scell (p, LT))) := Lib.hid (new_reads wb (p, LT))
                unfold scell at HRD
                simp only [] at HRD
                have hws : w.heap.size ≤ wb.heap.size := HWb.out.bel.size
                clear hj
                go_wp2_with (at_builtin; refine wpList_append_sl _ (by rfl) (.tmp 63) (.tmp 67) 40 rfl w.heap.size 46 i0 _ 2 4 Tryz.underlying40 HI.out HZ1.out HZ2.out HZ3.out rfl (by omega) (.slice (some ⟨go, 0, none⟩) (m + 1) c1) (m + 1) ((a ++ [(ya, yb)]).map scell).flatten rfl (HWN.out.own.1.alloc _) _ (some ⟨wb.heap.size, 0, none⟩) 1 1 [.int .u16 (p : Nat), .int .u16 (LT : Nat)] rfl HRD.out (by simp [Value.oneCell']) (by unfold maxLen; omega) (by omega) (by simp; omega) ?_; intro A2 c2 wz hown hrd hgr hat; have HOWN := Lib.hid hown; have HGR := Lib.hid hgr; clear hown hrd hgr hat)
                have HWZ : Hid (MkW w wz ga gb gr A2 (m + 1 + 1) c2 O2 s t p) := Lib.hid (by
                  rw [HO3.out]
                  exact HWN.out.made (T := (Value.slice (some ⟨go, 0, none⟩) (m + 1) c1).ownBlock.toList) ⟨by rw [push_scell]; exact HOWN.out, by have := HAL.out; simp [this]⟩ (chg_app HGR.out) (fun k hk => by simpa using hk))
                clear HOWN HGR HWN HWb
                go_roundg (gk - 1)
                case measure => have := HGK.out; omega
                case rel => exact Lib.hid ⟨A2, m + 1 + 1, c2, O2, rfl, Lib.hid ⟨HWZ.out.own, HWZ.out.bel, HWZ.out.res, HWZ.out.ne, HWZ.out.la, HWZ.out.lb, HWZ.out.lr⟩, .inl ⟨LT + 1, by go_num, rfl, by have := HM.out; omega, Lib.hid ⟨(HWZ.out.le (by omega)).ra, (HWZ.out.le (by omega)).rb⟩, Lib.hid ⟨HPC.out.1, fun x hx => Nat.lt_succ_of_le (HPC.out.2.1 x hx), fun q hq => HPC.out.2.2.2 q (by omega), by have h1 := HPH.out (by exact HM.out); have h2 := HPL.out; have h3 := HPT.out.2.2.2; omega⟩, Lib.hid (by have := HGK.out; have := HM.out; omega)⟩⟩
      · clear hrel
        have r2 := HO.out.2.2.1
        have c0 := r2.cell 0
        have f0 := r2.frozen 0
        have hl2 := r2.lt
        simp only [List.getElem?_cons_zero] at c0
        have HR3 : Hid (Row (wr.setCell ⟨gr, 0, none⟩ (.slice A1 n1 c1)) gr 42 [.slice A1 n1 c1]) := Lib.hid (r2.set_ 0 _)
        have HO2 : Hid (OwnS (wr.setCell ⟨gr, 0, none⟩ (.slice A1 n1 c1)) w.heap.size A1 n1 c1 out ∧ Below w.heap.size w (wr.setCell ⟨gr, 0, none⟩ (.slice A1 n1 c1))) := Lib.hid ⟨⟨own_setr HO.out.1.1 r2 (by decide) 0 _, HO.out.1.2⟩, HO.out.2.1.setCell (p := ⟨gr, 0, none⟩) hgr0 _⟩
        have c2 := HR3.out.cell 0
        simp only [List.getElem?_cons_zero] at c2
        clear r2
        go_wp2_with fail
        refine bodyPost_ret (v := .agg #[.slice A1 n1 c1]) (by simp [results, Tryz.results142, go_sem, c2]) rfl ⟨A1, n1, c1, out, rfl, HO2.out.1, HMK.out, HO2.out.2⟩
end S16
end Go.Proofs.YtchajbegjajlkaaGreat

/- The walk of a set's make, with the closure of Meet. -/
set_option linter.unusedVariables false
set_option linter.unusedSimpArgs false
namespace Go.Proofs.YtchajbegjajlkaaGreat
open Go.RowKit
namespace S16
set_option maxRecDepth 100000 in
set_option maxHeartbeats 2000000 in
theorem make_meet (f : Bool → Bool → Bool) (A A' : Option Addr) (n c n' c' : Nat) (s t : Sp.S) (w : World) (hk : Keeps 144 f) (hs : IsS w w.heap.size A n s) (ht : IsS w w.heap.size A' n' t) (hc : n ≤ c) (hcm : c ≤ 9223372036854775807) (hc' : n' ≤ c') (hcm' : c' ≤ 9223372036854775807) (hns : Sp.Nrm TOP s) (hnt : Sp.Nrm TOP t) (hsm : n + n' ≤ 2199023255552) :
    Calls Tryz.prog 142 #[.agg #[.slice A n c], .agg #[.slice A' n' c'], .func (.func 144) #[] #[]] w fun e w' => ∃ Ao no co out, e = .returned (.agg #[.slice Ao no co]) ∧ OwnS w' w.heap.size Ao no co out ∧ Sp.Mk TOP f s t out ∧ Below w.heap.size w w' := by
  obtain ⟨i0, hi0, hz1, hz2, hz3⟩ := info_parts infoSp
  have HI := Lib.hid hi0; have HZ1 := Lib.hid hz1; have HZ2 := Lib.hid hz2; have HZ3 := Lib.hid hz3
  have HK := Lib.hid hk; have HS := Lib.hid hs; have HT := Lib.hid ht; have HNS := Lib.hid hns; have HNT := Lib.hid hnt
  clear hi0 hz1 hz2 hz3 hk hs ht hns hnt
  go_enter Tryz.func142, Tryz.ntmps142
  go_upto_region 1 with fail
  have r0 : Row (((w.alloc (.cells #[.slice A n c] 42)).alloc (.cells #[.slice A' n' c'] 42)).alloc (.cells #[.slice none 0 0] 42)) w.heap.size 42 [.slice A n c] := ((Row.new w _ [.slice A n c]).alloc _).alloc _
  have r1 : Row (((w.alloc (.cells #[.slice A n c] 42)).alloc (.cells #[.slice A' n' c'] 42)).alloc (.cells #[.slice none 0 0] 42)) (w.heap.size + 1) 42 [.slice A' n' c'] := by
    have h := (Row.new (w.alloc (.cells #[.slice A n c] 42)) 42 [.slice A' n' c']).alloc (.cells #[.slice none 0 0] 42)
    rw [show (w.alloc (.cells #[.slice A n c] 42)).heap.size = w.heap.size + 1 by simp] at h
    exact h
  have r2 : Row (((w.alloc (.cells #[.slice A n c] 42)).alloc (.cells #[.slice A' n' c'] 42)).alloc (.cells #[.slice none 0 0] 42)) (w.heap.size + 1 + 1) 42 [.slice none 0 0] := by
    have h := Row.new ((w.alloc (.cells #[.slice A n c] 42)).alloc (.cells #[.slice A' n' c'] 42)) 42 [.slice none 0 0]
    rw [show ((w.alloc (.cells #[.slice A n c] 42)).alloc (.cells #[.slice A' n' c'] 42)).heap.size = w.heap.size + 1 + 1 by simp] at h
    exact h
  have hb3 : Below w.heap.size w (((w.alloc (.cells #[.slice A n c] 42)).alloc (.cells #[.slice A' n' c'] 42)).alloc (.cells #[.slice none 0 0] 42)) := (((Below.refl _ _).alloc (Nat.le_refl _) _).alloc (by simp) _).alloc (by simp; omega) _
  have c0 := r0.cell 0
  have c1 := r1.cell 0
  simp only [List.getElem?_cons_zero] at c0 c1
  have hl0 := r0.lt
  have hl1 := r1.lt
  have hl2 := r2.lt
  obtain ⟨gr, hgr⟩ : ∃ gr, gr = w.heap.size + 1 + 1 := ⟨_, rfl⟩
  rw [← hgr] at r2 hl2 ⊢
  have hgr0 : w.heap.size ≤ gr := by omega
  generalize ((w.alloc (.cells #[.slice A n c] 42)).alloc (.cells #[.slice A' n' c'] 42)).alloc (.cells #[.slice none 0 0] 42) = w3 at *
  have HR2 := Lib.hid r2; have HB3 := Lib.hid hb3
  clear r0 r1 r2 hb3 hgr
  go_cut [7, 8] (fun x y wx => ∃ ga gb : Nat, x = .pointer (some ⟨ga, 0, none⟩) ∧ y = .pointer (some ⟨gb, 0, none⟩) ∧ Hid (ga ≠ gb ∧ w.heap.size ≤ ga ∧ w.heap.size ≤ gb ∧ Row wx ga 273 [.slice A n c] ∧ Row wx gb 273 [.slice A' n' c'] ∧ Below w3.heap.size w3 wx))
  case first =>
    go_region
    all_goals
      go_wp2_with fail
      go_meet
      case rel =>
        first
          | exact ⟨_, _, rfl, rfl, Lib.hid ⟨by omega, by omega, by omega, (two_rows w3 _ _ _).1, (two_rows w3 _ _ _).2.1, (two_rows w3 _ _ _).2.2⟩⟩
          | exact ⟨_, _, rfl, rfl, Lib.hid ⟨by omega, by omega, by omega, (two_rows w3 _ _ _).2.1, (two_rows w3 _ _ _).1, (two_rows w3 _ _ _).2.2⟩⟩
  case rest =>
    obtain ⟨ga, gb, rfl, rfl, HG⟩ := hcut
    clear c0 c1 hl0 hl1
    have HBW : Hid (Below w.heap.size w wc) := Lib.hid (HB3.out.trans (HG.out.2.2.2.2.2.mono HB3.out.size))
    have HI0 : Hid (MkI w wc f ga gb gr s t 18446744073709551617 (.slice none 0 0) (.int .u16 0) (.bool true)) := Lib.hid (by
      obtain ⟨g1, g2, g3, g4, g5, g6⟩ := HG.out
      refine ⟨none, 0, 0, [], rfl, Lib.hid ⟨⟨World.ownsRow_nil _ _ _ _, rfl⟩, HBW.out, HR2.out.below g6 HR2.out.lt, g1, g2, g3, hgr0⟩, .inl ⟨0, rfl, rfl, by omega, Lib.hid ⟨⟨A, n, c, 0, by omega, g4, by rw [from_zero]; exact HS.out.below HBW.out, hc, hcm⟩, ⟨A', n', c', 0, by omega, g5, by rw [from_zero]; exact HT.out.below HBW.out, hc', hcm'⟩⟩, Lib.hid ⟨Sp.Nrm.nil _, by simp, by omega, by have h1 := Sp.phi_le s 0; have h2 := Sp.phi_le t 0; simp only [List.length_nil]; omega⟩, Lib.hid (by omega)⟩⟩)
    clear HG HBW HB3 HR2 hl2
    go_wp2_with fail
    go_loopg [9, 10, 11] 18446744073709551617 (fun k o p m wr => Hid (MkI w wr f ga gb gr s t k o p m))
    case atStart => exact HI0
    case round =>
      clear HI0
      obtain ⟨A1, n1, c1, out, rfl, HO, hr2⟩ := hrel.out
      rcases hr2 with ⟨p, rfl, rfl, hp, HRA, HPT, HGK⟩ | ⟨p, rfl, rfl, HMK⟩
      · have hmk : MkW w wr ga gb gr A1 n1 c1 out s t p := ⟨HO.out.1, HO.out.2.1, HO.out.2.2.1, HO.out.2.2.2.1, HO.out.2.2.2.2.1, HO.out.2.2.2.2.2.1, HO.out.2.2.2.2.2.2, HRA.out.1, HRA.out.2⟩
        have HW := Lib.hid hmk
        have HN1 : Hid (out.length = n1) := Lib.hid HO.out.1.2
        clear hrel hmk HO HRA
        obtain ⟨R, hR⟩ : ∃ R, R = Sp.look TOP s p := ⟨_, rfl⟩
        obtain ⟨T, hT⟩ : ∃ T, T = Sp.look TOP t p := ⟨_, rfl⟩
        have hpc := Sp.piece_ok (f := f) HNS.out HNT.out HPT.out.1 hp HPT.out.2.1 HPT.out.2.2.1
        have hph := Sp.round_phi HNS.out HNT.out hp
        have hpl := Sp.piece_len f TOP s t out p
        have hpd : Sp.piece f TOP s t out p = if f R.1 T.1 then Sp.push out p (min R.2 T.2) else out := by rw [hR, hT]; rfl
        rw [← hR, ← hT] at hpc hph
        obtain ⟨O2, hO2⟩ : ∃ O2, O2 = Sp.piece f TOP s t out p := ⟨_, rfl⟩
        rw [← hO2] at hpc hpl hpd
        have HA1 := Lib.hid (at_row HW.out.ra HW.out.la HNS.out hp)
        rw [← hR] at HA1
        have HA2 : Hid (∀ wx, MkW w wx ga gb gr A1 n1 c1 out s t p → Calls Tryz.prog 239 #[.pointer (some ⟨gb, 0, none⟩), .int .u16 (p : Nat)] wx fun e w' => e = .returned (.tuple #[.bool T.1, .int .u16 (T.2 : Nat)]) ∧ RowAt w' w.heap.size gb p t ∧ Chg [gb] wx w') := Lib.hid fun wx hx => by
          have h := at_row hx.rb hx.lb HNT.out hp
          rw [← hT] at h
          exact h
        obtain ⟨R1, R2⟩ := R
        obtain ⟨T1, T2⟩ := T
        simp only at hpc hph hpd HA1 HA2
        obtain ⟨LT, hLT⟩ : ∃ LT, LT = min R2 T2 := ⟨_, rfl⟩
        rw [← hLT] at hpc hph hpd
        have hlt1 := hpc.2.2.1.1
        have hlt2 : LT ≤ 65535 := hpc.2.2.1.2
        have HLT := Lib.hid hLT
        clear hLT
        have HPC := Lib.hid hpc; have HPH := Lib.hid hph; have HPD := Lib.hid hpd; have HPL := Lib.hid hpl
        clear hR hT hpc hph hpd hpl hO2
        go_wp2_with fail
        refine HA1.out.mono ?_
        rintro e wa ⟨rfl, hra, hca⟩
        have HWa := Lib.hid (HW.out.at_a hra hca)
        clear hra hca HA1 HW
        go_wp2_with fail
        refine (HA2.out _ HWa.out).mono ?_
        rintro e wb ⟨rfl, hrb, hcb⟩
        have HWb := Lib.hid (HWa.out.at_b hrb hcb)
        clear hrb hcb HA2 HWa
        go_upto_region 7 with fail
        go_cut [13] (fun x wx => x = .int .u16 (LT : Nat) ∧ wx = wb)
        case first =>
          by_cases hle : R2 ≤ T2
          · obtain rfl : LT = R2 := by have := HLT.out; omega
            go_wp2_with fail
            all_goals
              go_meet
              case rel => exact ⟨by go_num, rfl⟩
          · obtain rfl : LT = T2 := by have := HLT.out; omega
            go_wp2_with fail
            all_goals
              go_meet
              case rel => exact ⟨by go_num, rfl⟩
        case rest =>
        obtain ⟨rfl, hwx⟩ := hcut
        rw [hwx]
        clear hwx
        go_wp2_with fail
        refine (HK.out R1 T1 wb).mono ?_
        rintro e w' ⟨rfl, rfl⟩
        by_cases hM : LT = 65535
        · have e1 : IntKind.u16.wrap ((LT : Int) + 1) = 0 := by rw [IntKind.wrap_u16]; omega
          have e2 : ((LT : Int) != 65535) = false := by rw [bne_eq_false_iff_eq]; omega
          have e3 : bits .xor .u16 IntKind.u16.max 0 = 65535 := by decide
          have HM := Lib.hid hM
          clear hM
          cases hF : f R1 T1 with
          | false =>
            have HO : Hid (O2 = out) := Lib.hid (by have h := HPD.out; rw [hF] at h; exact h)
            have HWZ : Hid (MkW w wb ga gb gr A1 n1 c1 O2 s t p) := Lib.hid (by rw [HO.out]; exact HWb.out)
            clear HWb hF HPD
            go_wp2_with fail
            go_roundg (gk - 1)
            case measure => have := HGK.out; omega
            case rel => exact Lib.hid ⟨A1, n1, c1, O2, rfl, Lib.hid ⟨HWZ.out.own, HWZ.out.bel, HWZ.out.res, HWZ.out.ne, HWZ.out.la, HWZ.out.lb, HWZ.out.lr⟩, .inr ⟨0, rfl, rfl, Lib.hid ⟨HPC.out.1, fun q hq => HPC.out.2.2.2 q (by rw [HM.out]; exact hq)⟩⟩⟩
          | true =>
            have HO : Hid (O2 = Sp.push out p LT) := Lib.hid (by have h := HPD.out; rw [hF] at h; exact h)
            clear hF HPD
            have hbnd : n1 ≤ 4398046511104 := by have h1 := HPT.out.2.2.2; have h2 := HN1.out; have h3 := HS.out.2.1; have h4 := HT.out.2.1; omega
            rcases Sp.snoc_or out with rfl | ⟨a, y, rfl⟩
            · obtain rfl : n1 = 0 := HN1.out.symm
              have HWN := Lib.hid HWb.out
              have HRD : Hid (Reads (wb.alloc (.cells (scell (p, LT)).toArray 46)) (wb.alloc (.cells (scell (p, LT)).toArray 46)).heap.size 2 (some ⟨wb.heap.size, 0, none⟩) 1 (scell (p, LT))) := Lib.hid (new_reads wb (p, LT))
              unfold scell at HRD
              simp only [] at HRD
              have hws : w.heap.size ≤ wb.heap.size := HWb.out.bel.size
              go_wp2_with (at_builtin; refine wpList_append_sl _ (by rfl) (.tmp 63) (.tmp 67) 40 rfl w.heap.size 46 i0 _ 2 4 Tryz.underlying40 HI.out HZ1.out HZ2.out HZ3.out rfl (by omega) (.slice A1 0 c1) 0 (([] : Sp.S).map scell).flatten rfl (HWN.out.own.1.alloc _) _ (some ⟨wb.heap.size, 0, none⟩) 1 1 [.int .u16 (p : Nat), .int .u16 (LT : Nat)] rfl HRD.out (by simp [Value.oneCell']) (by unfold maxLen; omega) (by omega) (by simp; omega) ?_; intro A2 c2 wz hown hrd hgr hat; have HOWN := Lib.hid hown; have HGR := Lib.hid hgr; clear hown hrd hgr hat)
              have HWZ : Hid (MkW w wz ga gb gr A2 1 c2 O2 s t p) := Lib.hid (by
                rw [HO.out, Sp.push_nil]
                exact HWN.out.made (T := (Value.slice A1 0 c1).ownBlock.toList) ⟨HOWN.out, rfl⟩ (chg_app HGR.out) (fun k hk => by simpa using hk))
              clear HOWN HGR HWN HWb
              go_roundg (gk - 1)
              case measure => have := HGK.out; omega
              case rel => exact Lib.hid ⟨A2, 1, c2, O2, rfl, Lib.hid ⟨HWZ.out.own, HWZ.out.bel, HWZ.out.res, HWZ.out.ne, HWZ.out.la, HWZ.out.lb, HWZ.out.lr⟩, .inr ⟨0, rfl, rfl, Lib.hid ⟨HPC.out.1, fun q hq => HPC.out.2.2.2 q (by rw [HM.out]; exact hq)⟩⟩⟩
            · obtain ⟨m, rfl⟩ : ∃ m, n1 = m + 1 := ⟨a.length, by have := HN1.out; simp at this; omega⟩
              have hal : a.length = m := by have := HN1.out; simp at this; exact this
              have HAL := Lib.hid hal
              obtain ⟨go, rfl, hgo1, hgo2, hgo3, hgo4⟩ := own_somer HWb.out.own.1 (by omega)
              unfold maxLen at hgo4
              have hy := HPT.out.2.1 y (by simp)
              have cy : wb.cell? ⟨go, m * 2 + 1, none⟩ = some (.int .u16 (y.2 : Nat)) := by
                have h := HWb.out.own.1.cellAt (m * 2 + 1) (by omega)
                rw [h, List.map_append, List.flatten_append, List.getElem?_append_right (by rw [flat_len (s := 2) _ (scell_len a), List.length_map]; omega), flat_len (s := 2) _ (scell_len a), List.length_map, hal, show m * 2 + 1 - 2 * m = 1 by omega]
                rfl
              have zy : wb.frozen? ⟨go, m * 2 + 1, none⟩ = false := HWb.out.own.1.frozenAt _
              obtain ⟨ya, yb⟩ := y
              simp only at hy cy
              have e5 : IntKind.i64.wrap (((m : Int) + 1) - 1) = (m : Int) := by rw [IntKind.wrap_i64]; omega
              have e5' : (m : Int) + 1 - 1 = (m : Int) := by omega
              have e6 : IntKind.u16.wrap ((p : Int) - 1) = ((p - 1 : Nat) : Int) := by rw [IntKind.wrap_u16]; omega
              have e7 : (p : Int) - 1 = ((p - 1 : Nat) : Int) := by omega
              have hm0 : (0 : Int) ≤ (m : Int) := by omega
              clear hal
              by_cases hj : yb + 1 = p
              · have e8 : ((yb : Int) == ((p - 1 : Nat) : Int)) = true := by simp; omega
                have HO3 : Hid (O2 = a ++ [(ya, LT)]) := Lib.hid (by rw [HO.out, Sp.push_snoc, if_pos hj])
                have HWZ : Hid (MkW w (wb.setCell ⟨go, m * 2 + 1, none⟩ (.int .u16 (LT : Nat))) ga gb gr (some ⟨go, 0, none⟩) (m + 1) c1 O2 s t p) := Lib.hid (by
                  rw [HO3.out]
                  refine HWb.out.made (T := [go]) ⟨?_, by have := HAL.out; simp [this]⟩ ((Chg.refl [go] wb).set_ (p := ⟨go, m * 2 + 1, none⟩) (.inl (by simp)) _) (fun k hk => by rw [List.mem_singleton.1 hk]; rfl)
                  have h := (HWb.out.own.1.stored (2 * m + 1) (.int .u16 (LT : Nat))).1
                  rw [← HAL.out, set_scell, HAL.out] at h
                  rw [show m * 2 + 1 = 2 * m + 1 by omega]
                  exact h)
                clear hj HWb
                go_wp2_with fail
                go_roundg (gk - 1)
                case measure => have := HGK.out; omega
                case rel => exact Lib.hid ⟨_, m + 1, c1, O2, rfl, Lib.hid ⟨HWZ.out.own, HWZ.out.bel, HWZ.out.res, HWZ.out.ne, HWZ.out.la, HWZ.out.lb, HWZ.out.lr⟩, .inr ⟨0, rfl, rfl, Lib.hid ⟨HPC.out.1, fun q hq => HPC.out.2.2.2 q (by rw [HM.out]; exact hq)⟩⟩⟩
              · have e8 : ((yb : Int) == ((p - 1 : Nat) : Int)) = false := by simp; omega
                have HO3 : Hid (O2 = a ++ [(ya, yb)] ++ [(p, LT)]) := Lib.hid (by rw [HO.out, Sp.push_snoc, if_neg hj])
                have HWN := Lib.hid HWb.out
                have HRD : Hid (Reads (wb.alloc (.cells (scell (p, LT)).toArray 46)) (wb.alloc (.cells (scell (p, LT)).toArray 46)).heap.size 2 (some ⟨wb.heap.size, 0, none⟩) 1 (scell (p, LT))) := Lib.hid (new_reads wb (p, LT))
                unfold scell at HRD
                simp only [] at HRD
                have hws : w.heap.size ≤ wb.heap.size := HWb.out.bel.size
                clear hj
                go_wp2_with (at_builtin; refine wpList_append_sl _ (by rfl) (.tmp 63) (.tmp 67) 40 rfl w.heap.size 46 i0 _ 2 4 Tryz.underlying40 HI.out HZ1.out HZ2.out HZ3.out rfl (by omega) (.slice (some ⟨go, 0, none⟩) (m + 1) c1) (m + 1) ((a ++ [(ya, yb)]).map scell).flatten rfl (HWN.out.own.1.alloc _) _ (some ⟨wb.heap.size, 0, none⟩) 1 1 [.int .u16 (p : Nat), .int .u16 (LT : Nat)] rfl HRD.out (by simp [Value.oneCell']) (by unfold maxLen; omega) (by omega) (by simp; omega) ?_; intro A2 c2 wz hown hrd hgr hat; have HOWN := Lib.hid hown; have HGR := Lib.hid hgr; clear hown hrd hgr hat)
                have HWZ : Hid (MkW w wz ga gb gr A2 (m + 1 + 1) c2 O2 s t p) := Lib.hid (by
                  rw [HO3.out]
                  exact HWN.out.made (T := (Value.slice (some ⟨go, 0, none⟩) (m + 1) c1).ownBlock.toList) ⟨by rw [push_scell]; exact HOWN.out, by have := HAL.out; simp [this]⟩ (chg_app HGR.out) (fun k hk => by simpa using hk))
                clear HOWN HGR HWN HWb
                go_roundg (gk - 1)
                case measure => have := HGK.out; omega
                case rel => exact Lib.hid ⟨A2, m + 1 + 1, c2, O2, rfl, Lib.hid ⟨HWZ.out.own, HWZ.out.bel, HWZ.out.res, HWZ.out.ne, HWZ.out.la, HWZ.out.lb, HWZ.out.lr⟩, .inr ⟨0, rfl, rfl, Lib.hid ⟨HPC.out.1, fun q hq => HPC.out.2.2.2 q (by rw [HM.out]; exact hq)⟩⟩⟩
        · have e1 : IntKind.u16.wrap ((LT : Int) + 1) = ((LT + 1 : Nat) : Int) := by rw [IntKind.wrap_u16]; omega
          have e2 : ((LT : Int) != 65535) = true := by rw [bne_iff_ne]; omega
          have e3 : bits .xor .u16 IntKind.u16.max 0 = 65535 := by decide
          have HM : Hid (LT < 65535) := Lib.hid (by omega)
          clear hM
          cases hF : f R1 T1 with
          | false =>
            have HO : Hid (O2 = out) := Lib.hid (by have h := HPD.out; rw [hF] at h; exact h)
            have HWZ : Hid (MkW w wb ga gb gr A1 n1 c1 O2 s t p) := Lib.hid (by rw [HO.out]; exact HWb.out)
            clear HWb hF HPD
            go_wp2_with fail
            go_roundg (gk - 1)
            case measure => have := HGK.out; omega
            case rel => exact Lib.hid ⟨A1, n1, c1, O2, rfl, Lib.hid ⟨HWZ.out.own, HWZ.out.bel, HWZ.out.res, HWZ.out.ne, HWZ.out.la, HWZ.out.lb, HWZ.out.lr⟩, .inl ⟨LT + 1, by go_num, rfl, by have := HM.out; omega, Lib.hid ⟨(HWZ.out.le (by omega)).ra, (HWZ.out.le (by omega)).rb⟩, Lib.hid ⟨HPC.out.1, fun x hx => Nat.lt_succ_of_le (HPC.out.2.1 x hx), fun q hq => HPC.out.2.2.2 q (by omega), by have h1 := HPH.out (by exact HM.out); have h2 := HPL.out; have h3 := HPT.out.2.2.2; omega⟩, Lib.hid (by have := HGK.out; have := HM.out; omega)⟩⟩
          | true =>
            have HO : Hid (O2 = Sp.push out p LT) := Lib.hid (by have h := HPD.out; rw [hF] at h; exact h)
            clear hF HPD
            have hbnd : n1 ≤ 4398046511104 := by have h1 := HPT.out.2.2.2; have h2 := HN1.out; have h3 := HS.out.2.1; have h4 := HT.out.2.1; omega
            rcases Sp.snoc_or out with rfl | ⟨a, y, rfl⟩
            · obtain rfl : n1 = 0 := HN1.out.symm
              have HWN := Lib.hid HWb.out
              have HRD : Hid (Reads (wb.alloc (.cells (scell (p, LT)).toArray 46)) (wb.alloc (.cells (scell (p, LT)).toArray 46)).heap.size 2 (some ⟨wb.heap.size, 0, none⟩) 1 (scell (p, LT))) := Lib.hid (new_reads wb (p, LT))
              unfold scell at HRD
              simp only [] at HRD
              have hws : w.heap.size ≤ wb.heap.size := HWb.out.bel.size
              go_wp2_with (at_builtin; refine wpList_append_sl _ (by rfl) (.tmp 63) (.tmp 67) 40 rfl w.heap.size 46 i0 _ 2 4 Tryz.underlying40 HI.out HZ1.out HZ2.out HZ3.out rfl (by omega) (.slice A1 0 c1) 0 (([] : Sp.S).map scell).flatten rfl (HWN.out.own.1.alloc _) _ (some ⟨wb.heap.size, 0, none⟩) 1 1 [.int .u16 (p : Nat), .int .u16 (LT : Nat)] rfl HRD.out (by simp [Value.oneCell']) (by unfold maxLen; omega) (by omega) (by simp; omega) ?_; intro A2 c2 wz hown hrd hgr hat; have HOWN := Lib.hid hown; have HGR := Lib.hid hgr; clear hown hrd hgr hat)
              have HWZ : Hid (MkW w wz ga gb gr A2 1 c2 O2 s t p) := Lib.hid (by
                rw [HO.out, Sp.push_nil]
                exact HWN.out.made (T := (Value.slice A1 0 c1).ownBlock.toList) ⟨HOWN.out, rfl⟩ (chg_app HGR.out) (fun k hk => by simpa using hk))
              clear HOWN HGR HWN HWb
              go_roundg (gk - 1)
              case measure => have := HGK.out; omega
              case rel => exact Lib.hid ⟨A2, 1, c2, O2, rfl, Lib.hid ⟨HWZ.out.own, HWZ.out.bel, HWZ.out.res, HWZ.out.ne, HWZ.out.la, HWZ.out.lb, HWZ.out.lr⟩, .inl ⟨LT + 1, by go_num, rfl, by have := HM.out; omega, Lib.hid ⟨(HWZ.out.le (by omega)).ra, (HWZ.out.le (by omega)).rb⟩, Lib.hid ⟨HPC.out.1, fun x hx => Nat.lt_succ_of_le (HPC.out.2.1 x hx), fun q hq => HPC.out.2.2.2 q (by omega), by have h1 := HPH.out (by exact HM.out); have h2 := HPL.out; have h3 := HPT.out.2.2.2; omega⟩, Lib.hid (by have := HGK.out; have := HM.out; omega)⟩⟩
            · obtain ⟨m, rfl⟩ : ∃ m, n1 = m + 1 := ⟨a.length, by have := HN1.out; simp at this; omega⟩
              have hal : a.length = m := by have := HN1.out; simp at this; exact this
              have HAL := Lib.hid hal
              obtain ⟨go, rfl, hgo1, hgo2, hgo3, hgo4⟩ := own_somer HWb.out.own.1 (by omega)
              unfold maxLen at hgo4
              have hy := HPT.out.2.1 y (by simp)
              have cy : wb.cell? ⟨go, m * 2 + 1, none⟩ = some (.int .u16 (y.2 : Nat)) := by
                have h := HWb.out.own.1.cellAt (m * 2 + 1) (by omega)
                rw [h, List.map_append, List.flatten_append, List.getElem?_append_right (by rw [flat_len (s := 2) _ (scell_len a), List.length_map]; omega), flat_len (s := 2) _ (scell_len a), List.length_map, hal, show m * 2 + 1 - 2 * m = 1 by omega]
                rfl
              have zy : wb.frozen? ⟨go, m * 2 + 1, none⟩ = false := HWb.out.own.1.frozenAt _
              obtain ⟨ya, yb⟩ := y
              simp only at hy cy
              have e5 : IntKind.i64.wrap (((m : Int) + 1) - 1) = (m : Int) := by rw [IntKind.wrap_i64]; omega
              have e5' : (m : Int) + 1 - 1 = (m : Int) := by omega
              have e6 : IntKind.u16.wrap ((p : Int) - 1) = ((p - 1 : Nat) : Int) := by rw [IntKind.wrap_u16]; omega
              have e7 : (p : Int) - 1 = ((p - 1 : Nat) : Int) := by omega
              have hm0 : (0 : Int) ≤ (m : Int) := by omega
              clear hal
              by_cases hj : yb + 1 = p
              · have e8 : ((yb : Int) == ((p - 1 : Nat) : Int)) = true := by simp; omega
                have HO3 : Hid (O2 = a ++ [(ya, LT)]) := Lib.hid (by rw [HO.out, Sp.push_snoc, if_pos hj])
                have HWZ : Hid (MkW w (wb.setCell ⟨go, m * 2 + 1, none⟩ (.int .u16 (LT : Nat))) ga gb gr (some ⟨go, 0, none⟩) (m + 1) c1 O2 s t p) := Lib.hid (by
                  rw [HO3.out]
                  refine HWb.out.made (T := [go]) ⟨?_, by have := HAL.out; simp [this]⟩ ((Chg.refl [go] wb).set_ (p := ⟨go, m * 2 + 1, none⟩) (.inl (by simp)) _) (fun k hk => by rw [List.mem_singleton.1 hk]; rfl)
                  have h := (HWb.out.own.1.stored (2 * m + 1) (.int .u16 (LT : Nat))).1
                  rw [← HAL.out, set_scell, HAL.out] at h
                  rw [show m * 2 + 1 = 2 * m + 1 by omega]
                  exact h)
                clear hj HWb
                go_wp2_with fail
                go_roundg (gk - 1)
                case measure => have := HGK.out; omega
                case rel => exact Lib.hid ⟨_, m + 1, c1, O2, rfl, Lib.hid ⟨HWZ.out.own, HWZ.out.bel, HWZ.out.res, HWZ.out.ne, HWZ.out.la, HWZ.out.lb, HWZ.out.lr⟩, .inl ⟨LT + 1, by go_num, rfl, by have := HM.out; omega, Lib.hid ⟨(HWZ.out.le (by omega)).ra, (HWZ.out.le (by omega)).rb⟩, Lib.hid ⟨HPC.out.1, fun x hx => Nat.lt_succ_of_le (HPC.out.2.1 x hx), fun q hq => HPC.out.2.2.2 q (by omega), by have h1 := HPH.out (by exact HM.out); have h2 := HPL.out; have h3 := HPT.out.2.2.2; omega⟩, Lib.hid (by have := HGK.out; have := HM.out; omega)⟩⟩
              · have e8 : ((yb : Int) == ((p - 1 : Nat) : Int)) = false := by simp; omega
                have HO3 : Hid (O2 = a ++ [(ya, yb)] ++ [(p, LT)]) := Lib.hid (by rw [HO.out, Sp.push_snoc, if_neg hj])
                have HWN := Lib.hid HWb.out
                have HRD : Hid (Reads (wb.alloc (.cells (scell (p, LT)).toArray 46)) (wb.alloc (.cells (scell (p, LT)).toArray 46)).heap.size 2 (some ⟨wb.heap.size, 0, none⟩) 1 (scell (p, LT))) := Lib.hid (new_reads wb (p, LT))
                unfold scell at HRD
                simp only [] at HRD
                have hws : w.heap.size ≤ wb.heap.size := HWb.out.bel.size
                clear hj
                go_wp2_with (at_builtin; refine wpList_append_sl _ (by rfl) (.tmp 63) (.tmp 67) 40 rfl w.heap.size 46 i0 _ 2 4 Tryz.underlying40 HI.out HZ1.out HZ2.out HZ3.out rfl (by omega) (.slice (some ⟨go, 0, none⟩) (m + 1) c1) (m + 1) ((a ++ [(ya, yb)]).map scell).flatten rfl (HWN.out.own.1.alloc _) _ (some ⟨wb.heap.size, 0, none⟩) 1 1 [.int .u16 (p : Nat), .int .u16 (LT : Nat)] rfl HRD.out (by simp [Value.oneCell']) (by unfold maxLen; omega) (by omega) (by simp; omega) ?_; intro A2 c2 wz hown hrd hgr hat; have HOWN := Lib.hid hown; have HGR := Lib.hid hgr; clear hown hrd hgr hat)
                have HWZ : Hid (MkW w wz ga gb gr A2 (m + 1 + 1) c2 O2 s t p) := Lib.hid (by
                  rw [HO3.out]
                  exact HWN.out.made (T := (Value.slice (some ⟨go, 0, none⟩) (m + 1) c1).ownBlock.toList) ⟨by rw [push_scell]; exact HOWN.out, by have := HAL.out; simp [this]⟩ (chg_app HGR.out) (fun k hk => by simpa using hk))
                clear HOWN HGR HWN HWb
                go_roundg (gk - 1)
                case measure => have := HGK.out; omega
                case rel => exact Lib.hid ⟨A2, m + 1 + 1, c2, O2, rfl, Lib.hid ⟨HWZ.out.own, HWZ.out.bel, HWZ.out.res, HWZ.out.ne, HWZ.out.la, HWZ.out.lb, HWZ.out.lr⟩, .inl ⟨LT + 1, by go_num, rfl, by have := HM.out; omega, Lib.hid ⟨(HWZ.out.le (by omega)).ra, (HWZ.out.le (by omega)).rb⟩, Lib.hid ⟨HPC.out.1, fun x hx => Nat.lt_succ_of_le (HPC.out.2.1 x hx), fun q hq => HPC.out.2.2.2 q (by omega), by have h1 := HPH.out (by exact HM.out); have h2 := HPL.out; have h3 := HPT.out.2.2.2; omega⟩, Lib.hid (by have := HGK.out; have := HM.out; omega)⟩⟩
      · clear hrel
        have r2 := HO.out.2.2.1
        have c0 := r2.cell 0
        have f0 := r2.frozen 0
        have hl2 := r2.lt
        simp only [List.getElem?_cons_zero] at c0
        have HR3 : Hid (Row (wr.setCell ⟨gr, 0, none⟩ (.slice A1 n1 c1)) gr 42 [.slice A1 n1 c1]) := Lib.hid (r2.set_ 0 _)
        have HO2 : Hid (OwnS (wr.setCell ⟨gr, 0, none⟩ (.slice A1 n1 c1)) w.heap.size A1 n1 c1 out ∧ Below w.heap.size w (wr.setCell ⟨gr, 0, none⟩ (.slice A1 n1 c1))) := Lib.hid ⟨⟨own_setr HO.out.1.1 r2 (by decide) 0 _, HO.out.1.2⟩, HO.out.2.1.setCell (p := ⟨gr, 0, none⟩) hgr0 _⟩
        have c2 := HR3.out.cell 0
        simp only [List.getElem?_cons_zero] at c2
        clear r2
        go_wp2_with fail
        refine bodyPost_ret (v := .agg #[.slice A1 n1 c1]) (by simp [results, Tryz.results142, go_sem, c2]) rfl ⟨A1, n1, c1, out, rfl, HO2.out.1, HMK.out, HO2.out.2⟩
end S16
end Go.Proofs.YtchajbegjajlkaaGreat
