/- Texts of this claim, one behind the other: Mem, Bytes, Chg, El, SpM, SpO, SpW8. -/
import Derived.Below
import Derived.Laws.OwnMore
import Derived.Laws.Rows
import Derived.Deep.AppendLies
import Derived.Deep.Draws
import Derived.Maps.AppendAt
import Derived.RegionTactic
import Derived.OwnWalk
import Derived.Test.YtchajbegjajlkaaGreatRows
import Derived.WalkKit
import Derived.WalkSpells
import Derived.WalkLawsBesides
import Derived.Lib.Hide
import Derived.OpenShut
import Derived.Laws.CopyOwn
import Derived.Deep.MidRow
import Derived.Deep.QuietTactic
import Derived.BigQuiet
import Derived.Deep.Cut
import Derived.Deep.DeepCutAuto
import Derived.Deep.LoopGhost
/- Plain words for memory: a slice that reads as a list, a block that is known whole, an append onto a row of the call's own. (From the guide's page extra-words, turned to this seat.) -/
set_option linter.unusedVariables false
set_option linter.unusedSimpArgs false
namespace Go.Proofs.YtchajbegjajlkaaGreat
open Go.RowKit
theorem block_of_add (a : Addr) (n : Nat) : (a.add n).block = a.block := by unfold Addr.add; split <;> rfl
theorem add_of_add (a : Addr) (i j : Nat) : (a.add i).add j = a.add (i + j) := by
  unfold Addr.add
  by_cases hi : i = 0 <;> by_cases hj : j = 0 <;> simp [hi, hj, Nat.add_assoc]

def Reads (w : World) (B size : Nat) (A : Option Addr) (n : Nat) (xs : List Value) : Prop :=
  xs.length = n * size ∧ (0 < n → ∃ ad, A = some ad ∧ ad.block < B ∧ ∀ j u, xs[j]? = some u → w.cell? (ad.add j) = some u)

section
variable {w w' : World} {B B' size n : Nat} {A : Option Addr} {xs : List Value}
theorem Reads.none_ : Reads w B size A 0 [] := ⟨by simp, fun h => absurd h (by omega)⟩
theorem Reads.at_ {k : Nat} (h : Reads w B 1 A n xs) (hk : k < n) : ∃ ad u, A = some ad ∧ ad.block < B ∧ xs[k]? = some u ∧ w.cell? (ad.add k) = some u := by
  obtain ⟨ad, e, hb, hc⟩ := h.2 (by omega)
  have hl : k < xs.length := by have := h.1; omega
  exact ⟨ad, xs[k], e, hb, List.getElem?_eq_getElem hl, hc k _ (List.getElem?_eq_getElem hl)⟩
theorem Reads.keep (h : Reads w B size A n xs) (hk : ∀ p : Addr, p.block < B → w'.cell? p = w.cell? p) : Reads w' B size A n xs :=
  ⟨h.1, fun hn => by
    obtain ⟨ad, e, hb, hc⟩ := h.2 hn
    exact ⟨ad, e, hb, fun j u hu => (hk _ (by rw [block_of_add]; exact hb)).trans (hc j u hu)⟩⟩
theorem Reads.more (h : Reads w B size A n xs) (hB : B ≤ B') : Reads w B' size A n xs :=
  ⟨h.1, fun hn => by
    obtain ⟨ad, e, hb, hc⟩ := h.2 hn
    exact ⟨ad, e, by omega, hc⟩⟩
theorem Reads.below (h : Reads w B size A n xs) (hb : Below B w w') : Reads w' B size A n xs := h.keep fun _ hp => hb.cell hp
theorem Reads.drew (h : Reads w B size A n xs) : Reads w.drew B size A n xs := h
theorem Reads.drewN (h : Reads w B size A n xs) (k : Nat) : Reads (w.drewN k) B size A n xs := h
theorem Reads.alloc (h : Reads w B size A n xs) (hB : B ≤ w.heap.size) (o : Obj) : Reads (w.alloc o) B size A n xs := h.keep fun p hp => World.cell?_alloc_lt w o p (by omega)
theorem Reads.setCell (h : Reads w B size A n xs) {p : Addr} (hB : B ≤ p.block) (u : Value) : Reads (w.setCell p u) B size A n xs :=
  h.keep fun q hq => World.cell?_setCell_other w p q u (fun e => by subst e; omega)
theorem Reads.grown (h : Reads w B size A n xs) {row : Option Nat} (hg : w.grownBy w' row) (hB : B ≤ w.heap.size) (hr : ∀ g, row = some g → B ≤ g) : Reads w' B size A n xs :=
  h.keep fun p hp => World.cell?_of_block (hg.block p.block (by omega) (fun e => by have := hr _ e.symm; omega))
theorem Reads.cut (h : Reads w B size A n xs) {k cap : Nat} (hk : k ≤ n) (hc : n ≤ cap) :
    Reads w B size (if cap = k then A else A.map (·.add (k * size))) (n - k) (xs.drop (k * size)) := by
  refine ⟨by rw [List.length_drop, h.1, Nat.sub_mul], fun hn => ?_⟩
  obtain ⟨ad, rfl, hb, hcell⟩ := h.2 (by omega)
  rw [if_neg (by omega)]
  refine ⟨ad.add (k * size), rfl, by rw [block_of_add]; exact hb, fun j u hu => ?_⟩
  rw [add_of_add]
  exact hcell _ u (by rw [← hu, List.getElem?_drop])
theorem Reads.of_own {base : Nat} {e : TypeId} {c : Nat} (h : w.ownsRow base e size (.slice A n c) n xs) : Reads w w.heap.size size A n xs := by
  refine ⟨h.1, fun hn => ?_⟩
  obtain ⟨g, cap, hv, _, hlt⟩ := h.form hn
  have hA : A = some ⟨g, 0, none⟩ := by injection hv
  subst hA
  exact ⟨_, rfl, hlt, h.cells (g := g) rfl⟩
end

def Blk (w : World) (g : Nat) (t : TypeId) (cs : Array Value) : Prop := w.heap[g]? = some (.cells cs t (0, 0))

section
variable {w w' : World} {g : Nat} {t : TypeId} {cs : Array Value}
theorem Blk.lt (h : Blk w g t cs) : g < w.heap.size := by
  rcases Nat.lt_or_ge g w.heap.size with hlt | hge
  · exact hlt
  · unfold Blk at h; rw [Array.getElem?_eq_none hge] at h; cases h
theorem Blk.cell (h : Blk w g t cs) (i : Nat) : w.cell? ⟨g, i, none⟩ = cs[i]? := cell_of_row w g i cs t (0, 0) h
theorem Blk.frozen (h : Blk w g t cs) (i : Nat) : w.frozen? ⟨g, i, none⟩ = false := by
  unfold Blk at h
  simp [World.frozen?, h]
theorem Blk.new (w : World) (t : TypeId) (cs : Array Value) : Blk (w.alloc (.cells cs t)) w.heap.size t cs := heap_alloc_new w _
theorem Blk.drew (h : Blk w g t cs) : Blk w.drew g t cs := h
theorem Blk.drewN (h : Blk w g t cs) (n : Nat) : Blk (w.drewN n) g t cs := h
theorem Blk.alloc (h : Blk w g t cs) (o : Obj) : Blk (w.alloc o) g t cs := (Below.heap_alloc w o g h.lt).trans h
theorem Blk.set_ (h : Blk w g t cs) (i : Nat) (u : Value) : Blk (w.setCell ⟨g, i, none⟩ u) g t (cs.setIfInBounds i u) := by
  unfold Blk at h ⊢
  simp [World.setCell, Array.getElem?_modify, h]
theorem Blk.far (h : Blk w g t cs) {p : Addr} (hp : g ≠ p.block) (u : Value) : Blk (w.setCell p u) g t cs := (Below.heap_setCell w p u g hp).trans h
theorem Blk.below {B : Nat} (h : Blk w g t cs) (hb : Below B w w') (hg : g < B) : Blk w' g t cs := (hb.block g hg).trans h
theorem Blk.grown {row : Option Nat} (h : Blk w g t cs) (hb : w.grownBy w' row) (hg : some g ≠ row) : Blk w' g t cs := (hb.block g h.lt hg).trans h
theorem Blk.ne_ {g' : Nat} {t' : TypeId} {cs' : Array Value} (h : Blk w g t cs) (h' : Blk w g' t' cs') (hne : t ≠ t') : g ≠ g' := by
  rintro rfl
  unfold Blk at h h'
  rw [h] at h'
  injection h' with h'
  injection h' with _ ht
  exact hne ht
theorem own_blk_ne {base : Nat} {e : TypeId} {size n : Nat} {v : Value} {xs : List Value} (h : w.ownsRow base e size v n xs) (hg : Blk w g t cs) (hne : e ≠ t) : v.ownBlock ≠ some g := by
  rcases h.2 with ⟨rfl, _⟩ | ⟨g', cap, cur, rfl, _, hh, _⟩
  · simp [Value.ownBlock]
  · intro he
    have : g' = g := by simpa [Value.ownBlock] using he
    subst this
    exact Blk.ne_ (t := e) hh hg hne rfl
end

section
variable {P : Program} (w : World)

theorem run_append_of_nil (base : Nat) (t ty e : TypeId) (i : TypeInfo) (size : Nat) (ht : P.underlying t = some (.slice e)) (hi : P.info? e = some i)
    (v : Value) (n : Nat) (xs : List Value) (hown : w.ownsRow base e size v n xs) (c : Nat) : (Builtin.append_ #[t, t] ty #[v, .slice none 0 c]).run P w = .ok v w := by
  rcases hown.2 with ⟨rfl, rfl⟩ | ⟨g, cap, cur, rfl, _, _, hnc, _⟩
  · simp [Builtin.append_, run_underlying ht, sizeOf, typeInfo, hi, Builtin.lenOf, Builtin.firstCells]
  · simp [Builtin.append_, run_underlying ht, sizeOf, typeInfo, hi, Builtin.lenOf, Builtin.firstCells, hnc, storeCells]

theorem run_append_any (base : Nat) (t ty e : TypeId) (i : TypeInfo) (z : Value) (size bytes : Nat) (ht : P.underlying t = some (.slice e)) (hi : P.info? e = some i) (hz : i.zero = some z)
    (hsize : i.size = size) (hby : i.bytes = bytes) (hzs : z.cells.size = size) (hsz : 0 < size)
    (v : Value) (n : Nat) (xs : List Value) (hown : w.ownsRow base e size v n xs)
    (B : Nat) (A : Option Addr) (m c : Nat) (news : List Value) (hr : Reads w B size A m news) (h1 : ∀ u ∈ news, u.oneCell' = true)
    (h63 : n + m ≤ maxLen) (hbytes : (n + m) * bytes ≤ 140737488355328) (hbase : base ≤ w.heap.size) :
    ∃ v' w', (Builtin.append_ #[t, t] ty #[v, .slice A m c]).run P w = .ok v' w' ∧ w'.ownsRow base e size v' (n + m) (xs ++ news) ∧ w.grownBy w' v.ownBlock ∧
      (v'.ownBlock = v.ownBlock ∨ v'.ownBlock = some w.heap.size) := by
  rcases A with _ | ad
  · have hm : m = 0 := by
      rcases Nat.eq_zero_or_pos m with h0 | h0
      · exact h0
      · obtain ⟨ad, h, _⟩ := hr.2 h0
        cases h
    subst hm
    have hn : news = [] := List.eq_nil_of_length_eq_zero (by simpa using hr.1)
    subst hn
    exact ⟨v, w, run_append_of_nil w base t ty e i size ht hi v n xs hown c, by simpa using hown, World.grownBy.refl w _, .inl rfl⟩
  · have hcells : ∀ j u, news[j]? = some u → w.cell? (ad.add j) = some u := by
      intro j u hu
      rcases Nat.eq_zero_or_pos m with h0 | h0
      · subst h0
        have hn : news = [] := List.eq_nil_of_length_eq_zero (by simpa using hr.1)
        subst hn
        simp at hu
      · obtain ⟨ad', h, _, hc⟩ := hr.2 h0
        injection h with h
        subst h
        exact hc j u hu
    obtain ⟨v', w', hrun, h2, h3, _, h5⟩ := run_append_own_at (P := P) w base t ty e i z size bytes ht hi hz hsize hby hzs hsz v n xs hown ad m c news hr.1 hcells h1 h63 hbytes hbase
    exact ⟨v', w', hrun, h2, h3, h5⟩

theorem wp_append_any {o : Oper} {a : Act} {K : Act → World → Prop} {Q : Exit → Act → World → Prop} (s x : Operand) (t : TypeId)
    (ho : o.op = .call { callee := .builtin .append, args := #[s, x], argTypes := #[t, t] })
    (base : Nat) (e : TypeId) (i : TypeInfo) (z : Value) (size bytes : Nat) (ht : P.underlying t = some (.slice e)) (hi : P.info? e = some i) (hz : i.zero = some z)
    (hsize : i.size = size) (hby : i.bytes = bytes) (hzs : z.cells.size = size) (hsz : 0 < size)
    (v : Value) (n : Nat) (xs : List Value) (hs : a.eval s = v) (hown : w.ownsRow base e size v n xs)
    (B : Nat) (A : Option Addr) (m c : Nat) (news : List Value) (hx : a.eval x = .slice A m c) (hr : Reads w B size A m news) (h1 : ∀ u ∈ news, u.oneCell' = true)
    (h63 : n + m ≤ maxLen) (hbytes : (n + m) * bytes ≤ 140737488355328) (hbase : base ≤ w.heap.size)
    (h : ∀ v' w', w'.ownsRow base e size v' (n + m) (xs ++ news) → w.grownBy w' v.ownBlock → (v'.ownBlock = v.ownBlock ∨ v'.ownBlock = some w.heap.size) → K (a.put o.dst v') w') : o.wp P a w K Q := by
  obtain ⟨v', w', hrun, h2, h3, h4⟩ := run_append_any (P := P) w base t o.type e i z size bytes ht hi hz hsize hby hzs hsz v n xs hown B A m c news hr h1 h63 hbytes hbase
  unfold Oper.wp execOp
  simp only [ho, resolve, invoke, builtin, Sem.run_bind, Sem.run_pure, Result.andThen_ok, List.map_toArray, List.map_cons, List.map_nil, hs, hx, hrun]
  exact h v' w' h2 h3 h4

theorem wpList_append_any {ops : Array Oper} {rest : List Oper} {o : Oper} {a : Act} {Q : Exit → Act → World → Prop} (hgd : o.guard = none) (s x : Operand) (t : TypeId)
    (ho : o.op = .call { callee := .builtin .append, args := #[s, x], argTypes := #[t, t] })
    (base : Nat) (e : TypeId) (i : TypeInfo) (z : Value) (size bytes : Nat) (ht : P.underlying t = some (.slice e)) (hi : P.info? e = some i) (hz : i.zero = some z)
    (hsize : i.size = size) (hby : i.bytes = bytes) (hzs : z.cells.size = size) (hsz : 0 < size)
    (v : Value) (n : Nat) (xs : List Value) (hs : a.eval s = v) (hown : w.ownsRow base e size v n xs)
    (B : Nat) (A : Option Addr) (m c : Nat) (news : List Value) (hx : a.eval x = .slice A m c) (hr : Reads w B size A m news) (h1 : ∀ u ∈ news, u.oneCell' = true)
    (h63 : n + m ≤ maxLen) (hbytes : (n + m) * bytes ≤ 140737488355328) (hbase : base ≤ w.heap.size)
    (h : ∀ v' w', w'.ownsRow base e size v' (n + m) (xs ++ news) → w.grownBy w' v.ownBlock → (v'.ownBlock = v.ownBlock ∨ v'.ownBlock = some w.heap.size) → wpList P ops Q rest (a.put o.dst v') w') : wpList P ops Q (o :: rest) a w :=
  wpList_plain hgd fun _ hK => wp_append_any w s x t ho base e i z size bytes ht hi hz hsize hby hzs hsz v n xs hs hown B A m c news hx hr h1 h63 hbytes hbase fun v' w' h2 h3 h4 => hK _ _ (h v' w' h2 h3 h4)

theorem step_append_any {ops : Array Oper} {o : Oper} {a : Act} {K : Act → World → Prop} {Q : Exit → Act → World → Prop} {E : Prop} (hgd : o.guard = none) (s x : Operand) (t : TypeId)
    (ho : o.op = .call { callee := .builtin .append, args := #[s, x], argTypes := #[t, t] })
    (base : Nat) (e : TypeId) (i : TypeInfo) (z : Value) (size bytes : Nat) (ht : P.underlying t = some (.slice e)) (hi : P.info? e = some i) (hz : i.zero = some z)
    (hsize : i.size = size) (hby : i.bytes = bytes) (hzs : z.cells.size = size) (hsz : 0 < size)
    (v : Value) (n : Nat) (xs : List Value) (hs : a.eval s = v) (hown : w.ownsRow base e size v n xs)
    (B : Nat) (A : Option Addr) (m c : Nat) (news : List Value) (hx : a.eval x = .slice A m c) (hr : Reads w B size A m news) (h1 : ∀ u ∈ news, u.oneCell' = true)
    (h63 : n + m ≤ maxLen) (hbytes : (n + m) * bytes ≤ 140737488355328) (hbase : base ≤ w.heap.size)
    (h : ∀ v' w', w'.ownsRow base e size v' (n + m) (xs ++ news) → w.grownBy w' v.ownBlock → (v'.ownBlock = v.ownBlock ∨ v'.ownBlock = some w.heap.size) → K (a.put o.dst v') w') :
    if Region.wanted o (yielded ops a.tmps) = true then Oper.wp P o a w K Q else E := by
  have hw : Region.wanted o (yielded ops a.tmps) = true := by simp [Region.wanted, hgd]
  rw [if_pos hw]
  exact wp_append_any w s x t ho base e i z size bytes ht hi hz hsize hby hzs hsz v n xs hs hown B A m c news hx hr h1 h63 hbytes hbase h
end

/-- an owned row, as a slice value written out -/
theorem own_slice {w : World} {base : Nat} {e : TypeId} {size n : Nat} {v : Value} {xs : List Value} (h : w.ownsRow base e size v n xs) : ∃ A c, v = .slice A n c ∧ Reads w w.heap.size size A n xs := by
  rcases h.2 with ⟨rfl, rfl⟩ | ⟨g, cap, cur, rfl, _⟩
  · exact ⟨none, 0, rfl, Reads.of_own h⟩
  · exact ⟨_, cap, rfl, Reads.of_own h⟩
theorem wpList_wanted {P : Program} {ops : Array Oper} {Q : Exit → Act → World → Prop} {a : Act} {w : World} {rest : List Oper} {o : Oper} (hw : Region.wanted o (yielded ops a.tmps) = true)
    (h : ∀ K : Act → World → Prop, (∀ a w, wpList P ops Q rest a w → K a w) → o.wp P a w K Q) : wpList P ops Q (o :: rest) a w :=
  wpList_step fun K hK => by rw [if_pos hw]; exact h K hK
/-- append onto nil or onto a row of the call's own, the source whatever: the new slice is written out -/
theorem wpList_append_sl {P : Program} (w : World) {ops : Array Oper} {rest : List Oper} {o : Oper} {a : Act} {Q : Exit → Act → World → Prop} (hgd : Region.wanted o (yielded ops a.tmps) = true) (s x : Operand) (t : TypeId)
    (ho : o.op = .call { callee := .builtin .append, args := #[s, x], argTypes := #[t, t] })
    (base : Nat) (e : TypeId) (i : TypeInfo) (z : Value) (size bytes : Nat) (ht : P.underlying t = some (.slice e)) (hi : P.info? e = some i) (hz : i.zero = some z)
    (hsize : i.size = size) (hby : i.bytes = bytes) (hzs : z.cells.size = size) (hsz : 0 < size)
    (v : Value) (n : Nat) (xs : List Value) (hs : a.eval s = v) (hown : w.ownsRow base e size v n xs)
    (B : Nat) (A : Option Addr) (m c : Nat) (news : List Value) (hx : a.eval x = .slice A m c) (hr : Reads w B size A m news) (h1 : ∀ u ∈ news, u.oneCell' = true)
    (h63 : n + m ≤ maxLen) (hbytes : (n + m) * bytes ≤ 140737488355328) (hbase : base ≤ w.heap.size)
    (h : ∀ A' c' w', w'.ownsRow base e size (.slice A' (n + m) c') (n + m) (xs ++ news) → Reads w' w'.heap.size size A' (n + m) (xs ++ news) → w.grownBy w' v.ownBlock →
      ((Value.slice A' (n + m) c').ownBlock = v.ownBlock ∨ (Value.slice A' (n + m) c').ownBlock = some w.heap.size) → wpList P ops Q rest (a.put o.dst (.slice A' (n + m) c')) w') : wpList P ops Q (o :: rest) a w := by
  refine wpList_wanted hgd fun _ hK => wp_append_any w s x t ho base e i z size bytes ht hi hz hsize hby hzs hsz v n xs hs hown B A m c news hx hr h1 h63 hbytes hbase fun v' w' h2 h3 h4 => ?_
  obtain ⟨A', c', rfl, hR⟩ := own_slice h2
  exact hK _ _ (h A' c' w' h2 hR h3 h4)
/-- what an append onto nil leaves: a new slice of just these cells, in a block of its own if there is any -/
def NewSl (w w' : World) (e : TypeId) (size : Nat) (A : Option Addr) (m c : Nat) (news : List Value) : Prop :=
  w'.ownsRow w.heap.size e size (.slice A m c) m news ∧ Reads w' w'.heap.size size A m news ∧ w.grownBy w' none ∧ ((Value.slice A m c).ownBlock = none ∨ (Value.slice A m c).ownBlock = some w.heap.size)
theorem NewSl.below {w w' : World} {e : TypeId} {size m c : Nat} {A : Option Addr} {news : List Value} (h : NewSl w w' e size A m c news) : Below w.heap.size w w' :=
  ⟨h.2.2.1.os, h.2.2.1.tape, h.2.2.1.output, h.2.2.1.size, fun k hk => h.2.2.1.block k hk (by simp)⟩
theorem NewSl.reads {w w' : World} {e : TypeId} {size m c : Nat} {A : Option Addr} {news : List Value} (h : NewSl w w' e size A m c news) : Reads w' w'.heap.size size A m news := h.2.1
/-- append([]T(nil), xs...) -/
theorem wpList_append_nil {P : Program} (w : World) {ops : Array Oper} {rest : List Oper} {o : Oper} {a : Act} {Q : Exit → Act → World → Prop} (hgd : Region.wanted o (yielded ops a.tmps) = true) (s x : Operand) (t : TypeId)
    (ho : o.op = .call { callee := .builtin .append, args := #[s, x], argTypes := #[t, t] })
    (e : TypeId) (i : TypeInfo) (z : Value) (size bytes : Nat) (ht : P.underlying t = some (.slice e)) (hi : P.info? e = some i) (hz : i.zero = some z)
    (hsize : i.size = size) (hby : i.bytes = bytes) (hzs : z.cells.size = size) (hsz : 0 < size) (hs : a.eval s = .slice none 0 0)
    (B : Nat) (A : Option Addr) (m c : Nat) (news : List Value) (hx : a.eval x = .slice A m c) (hr : Reads w B size A m news) (h1 : ∀ u ∈ news, u.oneCell' = true)
    (h63 : m ≤ maxLen) (hbytes : m * bytes ≤ 140737488355328)
    (h : ∀ A' c' w', Hid (NewSl w w' e size A' m c' news) → wpList P ops Q rest (a.put o.dst (.slice A' m c')) w') : wpList P ops Q (o :: rest) a w := by
  refine wpList_append_sl w hgd s x t ho w.heap.size e i z size bytes ht hi hz hsize hby hzs hsz _ 0 [] hs (World.ownsRow_nil _ _ _ _) B A m c news hx hr h1 (by omega) (by simpa using hbytes) (Nat.le_refl _) fun A' c' w' h2 h3 h4 h5 => ?_
  rw [Nat.zero_add] at h2 h3 h5 ⊢
  rw [List.nil_append] at h2 h3
  exact h A' c' w' ⟨h2, h3, h4, h5⟩
/-- append(own, xs...) where own was made in this call from block 'base' on -/
theorem wpList_append_more {P : Program} (w : World) {ops : Array Oper} {rest : List Oper} {o : Oper} {a : Act} {Q : Exit → Act → World → Prop} (hgd : Region.wanted o (yielded ops a.tmps) = true) (s x : Operand) (t : TypeId)
    (ho : o.op = .call { callee := .builtin .append, args := #[s, x], argTypes := #[t, t] })
    (base : Nat) (e : TypeId) (i : TypeInfo) (z : Value) (size bytes : Nat) (ht : P.underlying t = some (.slice e)) (hi : P.info? e = some i) (hz : i.zero = some z)
    (hsize : i.size = size) (hby : i.bytes = bytes) (hzs : z.cells.size = size) (hsz : 0 < size)
    (A0 : Option Addr) (n c0 : Nat) (xs : List Value) (hs : a.eval s = .slice A0 n c0) (hown : w.ownsRow base e size (.slice A0 n c0) n xs)
    (B : Nat) (A : Option Addr) (m c : Nat) (news : List Value) (hx : a.eval x = .slice A m c) (hr : Reads w B size A m news) (h1 : ∀ u ∈ news, u.oneCell' = true)
    (h63 : n + m ≤ maxLen) (hbytes : (n + m) * bytes ≤ 140737488355328) (hbase : base ≤ w.heap.size)
    (h : ∀ A' c' w', Hid (w'.ownsRow base e size (.slice A' (n + m) c') (n + m) (xs ++ news) ∧ Reads w' w'.heap.size size A' (n + m) (xs ++ news) ∧ Below base w w') → wpList P ops Q rest (a.put o.dst (.slice A' (n + m) c')) w') : wpList P ops Q (o :: rest) a w := by
  refine wpList_append_sl w hgd s x t ho base e i z size bytes ht hi hz hsize hby hzs hsz _ n xs hs hown B A m c news hx hr h1 h63 hbytes hbase fun A' c' w' h2 h3 h4 h5 => ?_
  exact h A' c' w' ⟨h2, h3, (Below.refl _ _).grown h4 hbase fun k hk => (hown.lt k hk).1⟩
end Go.Proofs.YtchajbegjajlkaaGreat

/- Words for a slice of bytes that reads as a list of numbers, and for a block that is known whole. -/
set_option linter.unusedVariables false
set_option linter.unusedSimpArgs false
namespace Go.Proofs.YtchajbegjajlkaaGreat
open Go.RowKit

def u8 (b : Nat) : Value := .int .u8 (b : Int)
/-- the slice reads as these bytes -/
def IsB (w : World) (B : Nat) (A : Option Addr) (n : Nat) (bs : List Nat) : Prop := Reads w B 1 A n (bs.map u8) ∧ (∀ b ∈ bs, b < 256) ∧ n ≤ 9223372036854775807
theorem IsB.len {w : World} {B n : Nat} {A : Option Addr} {bs : List Nat} (h : IsB w B A n bs) : bs.length = n := by have := h.1.1; simpa using this
theorem IsB.below {w w' : World} {B n : Nat} {A : Option Addr} {bs : List Nat} (h : IsB w B A n bs) (hb : Below B w w') : IsB w' B A n bs := ⟨h.1.below hb, h.2⟩
theorem IsB.more {w : World} {B B' n : Nat} {A : Option Addr} {bs : List Nat} (h : IsB w B A n bs) (hb : B ≤ B') : IsB w B' A n bs := ⟨h.1.more hb, h.2⟩
theorem IsB.alloc {w : World} {B n : Nat} {A : Option Addr} {bs : List Nat} (h : IsB w B A n bs) (hB : B ≤ w.heap.size) (o : Obj) : IsB (w.alloc o) B A n bs := ⟨h.1.alloc hB o, h.2⟩
theorem take_snoc (bs : List Nat) (k : Nat) (h : k < bs.length) : bs.take (k + 1) = bs.take k ++ [bs.getD k 0] := by
  rw [List.take_succ_eq_append_getElem h]; simp [List.getD_eq_getElem?_getD, h]
theorem getD_mem (bs : List Nat) (k : Nat) (h : k < bs.length) : bs.getD k 0 ∈ bs := by
  simp [List.getD_eq_getElem?_getD, h]
/-- where its bytes lie -/
theorem IsB.form {w : World} {B n : Nat} {A : Option Addr} {bs : List Nat} (h : IsB w B A n bs) :
    ∃ b off, Hid (0 < n → A = some ⟨b, off, none⟩ ∧ b < B ∧ ∀ k, k < n → w.cell? ⟨b, off + k, none⟩ = some (.int .u8 ((bs.getD k 0 : Nat) : Int))) := by
  rcases Nat.eq_zero_or_pos n with h0 | h0
  · exact ⟨0, 0, fun h => absurd h (by omega)⟩
  · obtain ⟨⟨b, off, sp⟩, rfl, hb, hc⟩ := h.1.2 h0
    have hl := h.len
    have hx : ∀ k, k < n → (bs.map u8)[k]? = some (.int .u8 ((bs.getD k 0 : Nat) : Int)) := fun k hk => by
      simp [List.getD_eq_getElem?_getD, show k < bs.length by omega, u8]
    have hs : sp = none := by
      have := World.cell?_spot (hc 0 _ (hx 0 h0))
      simpa [Addr.add] using this
    subst hs
    refine ⟨b, off, fun _ => ⟨rfl, hb, fun k hk => ?_⟩⟩
    have := hc k _ (hx k hk)
    unfold Addr.add at this
    split at this
    · rename_i h0; subst h0; simpa using this
    · simpa using this

/-- what the row's step tells of a slice of integers that came in (the shell's own word) -/
def IsRow (k : IntKind) (w : World) (a : Option Addr) (len cap : Nat) (zs : List Int) : Prop :=
  (a = none ∧ len = 0 ∧ cap = 0 ∧ zs = []) ∨
  ∃ x, a = some x ∧ len ≤ cap ∧ cap ≤ maxLen ∧ zs.length = cap ∧ (∀ i, i < zs.length → w.cell? (x.add i) = some (.int k (zs.getD i 0))) ∧ ∀ n ∈ zs, (Lit.int k n).wf = true
theorem nat_of_u8 {a : Int} (h : (Lit.int .u8 a).wf = true) : ∃ s : Nat, a = s ∧ s < 256 := by
  have := bounds_u8 h
  exact ⟨a.toNat, by omega, by omega⟩
theorem nat_of_u32 {a : Int} (h : (Lit.int .u32 a).wf = true) : ∃ s : Nat, a = s ∧ s < 4294967296 := by
  have := bounds_u32 h
  exact ⟨a.toNat, by omega, by omega⟩
theorem nat_of_u64 {a : Int} (h : (Lit.int .u64 a).wf = true) : ∃ s : Nat, a = s ∧ s < 18446744073709551616 := by
  have := bounds_u64 h
  exact ⟨a.toNat, by omega, by omega⟩
theorem IsRow.isB {w : World} {a : Option Addr} {len cap : Nat} {zs : List Int} (h : IsRow .u8 w a len cap zs) : ∃ bs, IsB w w.heap.size a len bs := by
  rcases h with ⟨rfl, rfl, rfl, rfl⟩ | ⟨x, rfl, hl, hm, hz, hc, hw⟩
  · exact ⟨[], ⟨by simp, fun h => absurd h (by omega)⟩, by simp, by omega⟩
  · refine ⟨(zs.take len).map Int.toNat, ⟨by simp; omega, fun h0 => ⟨x, rfl, ?_, fun j u hu => ?_⟩⟩, ?_, by unfold maxLen at hm; omega⟩
    · have := World.block_lt_of_cell? w _ (hc 0 (by omega))
      rwa [block_of_add] at this
    · have hj : j < len := by have := (List.getElem?_eq_some_iff.1 hu).1; simp at this; omega
      rw [hc j (by omega)]
      have hz0 := hw (zs.getD j 0) (by rw [List.getD_eq_getElem?_getD]; simp [show j < zs.length by omega])
      have hb := bounds_u8 hz0
      simp [hj, show j < zs.length by omega] at hu
      rw [← hu]
      unfold u8
      have e : zs.getD j 0 = zs[j]'(by omega) := by simp [List.getD_eq_getElem?_getD, show j < zs.length by omega]
      rw [e] at hb ⊢
      congr 2
      omega
    · intro b hb
      obtain ⟨z, hz1, rfl⟩ := List.mem_map.1 hb
      have := bounds_u8 (hw z (List.mem_of_mem_take hz1))
      omega
theorem ret_bool {a b : Bool} (h : a = b) : Ending.returned (.bool a) = .returned (.bool b) := by rw [h]
theorem below_drewN {B : Nat} {a w : World} (h : Below B a w) (n : Nat) : Below B a (w.drewN n) := ⟨h.os, h.tape, h.output, h.size, h.block⟩
/-- block g is just these cells -/
def Row (w : World) (g : Nat) (t : TypeId) (cs : List Value) : Prop := w.heap[g]? = some (.cells cs.toArray t (0, 0))
section
variable {w w' : World} {g : Nat} {t : TypeId} {cs : List Value}
theorem Row.out (h : Row w g t cs) : w.heap[g]? = some (.cells cs.toArray t (0, 0)) := h
theorem Row.lt (h : Row w g t cs) : g < w.heap.size := Blk.lt (cs := cs.toArray) h
theorem Row.cell (h : Row w g t cs) (i : Nat) : w.cell? ⟨g, i, none⟩ = cs[i]? := by rw [Blk.cell (cs := cs.toArray) h]; simp
theorem Row.frozen (h : Row w g t cs) (i : Nat) : w.frozen? ⟨g, i, none⟩ = false := Blk.frozen (cs := cs.toArray) h i
theorem Row.new (w : World) (t : TypeId) (cs : List Value) : Row (w.alloc (.cells cs.toArray t)) w.heap.size t cs := heap_alloc_new w _
theorem Row.drew (h : Row w g t cs) : Row w.drew g t cs := h
theorem Row.drewN (h : Row w g t cs) (n : Nat) : Row (w.drewN n) g t cs := h
theorem Row.alloc (h : Row w g t cs) (o : Obj) : Row (w.alloc o) g t cs := Blk.alloc (cs := cs.toArray) h o
theorem Row.set_ (h : Row w g t cs) (i : Nat) (u : Value) : Row (w.setCell ⟨g, i, none⟩ u) g t (cs.set i u) := by
  have := Blk.set_ (cs := cs.toArray) h i u
  unfold Blk at this; unfold Row
  rw [this]; simp
theorem Row.far (h : Row w g t cs) {p : Addr} (hp : g ≠ p.block) (u : Value) : Row (w.setCell p u) g t cs := Blk.far (cs := cs.toArray) h hp u
theorem Row.below {B : Nat} (h : Row w g t cs) (hb : Below B w w') (hg : g < B) : Row w' g t cs := Blk.below (cs := cs.toArray) h hb hg
theorem Row.reads {B : Nat} (h : Row w g t cs) (off n : Nat) (hn : off + n ≤ cs.length) (hB : g < B) : Reads w B 1 (some ⟨g, off, none⟩) n ((cs.drop off).take n) := by
  refine ⟨by simp; omega, fun _ => ⟨_, rfl, hB, fun j u hu => ?_⟩⟩
  have hj : j < n := by have := (List.getElem?_eq_some_iff.1 hu).1; simp at this; omega
  have : w.cell? ⟨g, off + j, none⟩ = some u := by rw [h.cell, ← hu]; simp [hj]
  unfold Addr.add
  split
  · rename_i h0; subst h0; simpa using this
  · simpa using this
end
theorem IsB.of_row {w : World} {B g off n : Nat} {t : TypeId} {cs : List Value} {bs : List Nat} (h : Row w g t cs) (hcs : (cs.drop off).take n = bs.map u8) (hn : bs.length = n) (hb : ∀ b ∈ bs, b < 256) (hB : g < B) (hmax : n ≤ 9223372036854775807)
    (hl : off + n ≤ cs.length) : IsB w B (some ⟨g, off, none⟩) n bs := by
  have := h.reads (B := B) off n hl hB
  rw [hcs] at this
  exact ⟨this, hb, hmax⟩
end Go.Proofs.YtchajbegjajlkaaGreat

/- Frames: what has changed is, at most, some blocks. -/
set_option linter.unusedVariables false
set_option linter.unusedSimpArgs false
namespace Go.Proofs.YtchajbegjajlkaaGreat
open Go.RowKit

/-- nothing that was there has changed but, at most, these blocks -/
structure Chg (S : List Nat) (w w' : World) : Prop where
  os : w'.os = w.os
  tape : w'.tape = w.tape
  output : w'.output = w.output
  size : w.heap.size ≤ w'.heap.size
  block : ∀ k, k < w.heap.size → k ∉ S → w'.heap[k]? = w.heap[k]?
theorem Chg.refl (S : List Nat) (w : World) : Chg S w w := ⟨rfl, rfl, rfl, Nat.le_refl _, fun _ _ _ => rfl⟩
theorem Chg.of_below {S : List Nat} {w w' : World} (h : Below w.heap.size w w') : Chg S w w' := ⟨h.os, h.tape, h.output, h.size, fun k hk _ => h.block k hk⟩
theorem Chg.trans {S S' : List Nat} {a b c : World} (h : Chg S a b) (k : Chg S' b c) (hs : ∀ x ∈ S', x ∈ S ∨ a.heap.size ≤ x) : Chg S a c :=
  ⟨k.os.trans h.os, k.tape.trans h.tape, k.output.trans h.output, Nat.le_trans h.size k.size, fun i hi hn => (k.block i (Nat.lt_of_lt_of_le hi h.size) (fun hm => by rcases hs i hm with h1 | h1; exact hn h1; omega)).trans (h.block i hi hn)⟩
theorem Chg.below {S : List Nat} {B : Nat} {w w' : World} (h : Chg S w w') (hB : B ≤ w.heap.size) (hS : ∀ x ∈ S, B ≤ x) : Below B w w' :=
  ⟨h.os, h.tape, h.output, h.size, fun k hk => h.block k (by omega) (fun hm => by have := hS k hm; omega)⟩
theorem Chg.row {S : List Nat} {w w' : World} {g : Nat} {t : TypeId} {cs : List Value} (h : Chg S w w') (hr : Row w g t cs) (hg : g ∉ S) : Row w' g t cs := (h.block g hr.lt hg).trans hr
theorem Chg.set_ {S : List Nat} {a w : World} (h : Chg S a w) {p : Addr} (hp : p.block ∈ S ∨ a.heap.size ≤ p.block) (u : Value) : Chg S a (w.setCell p u) :=
  ⟨h.os, h.tape, h.output, by simpa [World.setCell] using h.size, fun i hi hn => (Below.heap_setCell w p u i (fun e => by subst e; rcases hp with h1 | h1; exact hn h1; omega)).trans (h.block i hi hn)⟩
theorem Chg.alloc {S : List Nat} {a w : World} (h : Chg S a w) (o : Obj) : Chg S a (w.alloc o) :=
  ⟨h.os, h.tape, h.output, Nat.le_trans h.size (by simp), fun i hi hn => (Below.heap_alloc w o i (Nat.lt_of_lt_of_le hi h.size)).trans (h.block i hi hn)⟩
theorem Chg.drewN {S : List Nat} {a w : World} (h : Chg S a w) (n : Nat) : Chg S a (w.drewN n) := ⟨h.os, h.tape, h.output, h.size, h.block⟩
theorem Chg.drew {S : List Nat} {a w : World} (h : Chg S a w) : Chg S a w.drew := ⟨h.os, h.tape, h.output, h.size, h.block⟩
/-- the row that something owns now: the one that it had, or a new one -/
def Moved (w : World) (r r' : Option Nat) : Prop := r' = r ∨ ∃ k, r' = some k ∧ w.heap.size ≤ k
theorem Moved.refl (w : World) (r : Option Nat) : Moved w r r := .inl rfl
theorem below_chg {B : Nat} {S : List Nat} {a w w' : World} (h : Below B a w) (hB : B ≤ a.heap.size) (hc : Chg S w w') (hS : ∀ x ∈ S, B ≤ x) : Below B a w' := h.trans (hc.below (Nat.le_trans hB h.size) hS)
theorem moved_ge {w : World} {B : Nat} {r r' : Option Nat} (h : Moved w r r') (hr : ∀ x ∈ r.toList, B ≤ x) (hB : B ≤ w.heap.size) : ∀ x ∈ r'.toList, B ≤ x := by
  rcases h with rfl | ⟨k, rfl, hk⟩
  · exact hr
  · intro x hx
    simp at hx
    omega
end Go.Proofs.YtchajbegjajlkaaGreat

/- Elements of several cells: cells that are stored one after the other, a copy of such elements. -/
set_option linter.unusedVariables false
set_option linter.unusedSimpArgs false
namespace Go.Proofs.YtchajbegjajlkaaGreat
open Go.RowKit
theorem own_setr {w : World} {base size n g t : Nat} {e : TypeId} {v : Value} {xs cs : List Value} (h : w.ownsRow base e size v n xs) (hr : Row w g t cs) (hne : e ≠ t) (i : Nat) (u : Value) : (w.setCell ⟨g, i, none⟩ u).ownsRow base e size v n xs := by
  refine ⟨h.1, ?_⟩
  rcases h.2 with h2 | ⟨g', cap, cur, hv, hg, hh, r⟩
  · exact .inl h2
  · refine .inr ⟨g', cap, cur, hv, hg, ?_, r⟩
    have hgg : g' ≠ g := Blk.ne_ (t := e) (cs := cur) (cs' := cs.toArray) hh hr hne
    rw [Below.heap_setCell _ _ _ _ hgg]; exact hh
theorem owns_chgr {S : List Nat} {w w' : World} {base : Nat} {e : TypeId} {size n : Nat} {v : Value} {xs : List Value} (h : w.ownsRow base e size v n xs) (hc : Chg S w w') (hr : ∀ k, v.ownBlock = some k → k ∉ S) : w'.ownsRow base e size v n xs := by
  refine ⟨h.1, ?_⟩
  rcases h.2 with h2 | ⟨g, cap, cur, hv, hg, hh, r⟩
  · exact .inl h2
  · refine .inr ⟨g, cap, cur, hv, hg, ?_, r⟩
    rw [hc.block g (Blk.lt (cs := cur) hh) (hr g (by rw [hv]; rfl))]; exact hh
theorem own_somer {w : World} {base n c size : Nat} {e : TypeId} {A : Option Addr} {xs : List Value} (h : w.ownsRow base e size (.slice A n c) n xs) (hn : 0 < n) : ∃ g, A = some ⟨g, 0, none⟩ ∧ base ≤ g ∧ g < w.heap.size ∧ n ≤ c ∧ c ≤ maxLen := by
  rcases h.2 with ⟨_, e⟩ | ⟨g', cap, cur, hv, h1, hh, hnc, hcm, _⟩
  · omega
  · injection hv with hA _ hc
    subst hA hc
    exact ⟨g', rfl, h1, (h.lt g' rfl).2, hnc, hcm⟩
theorem own_blkr {w : World} {base n size : Nat} {e : TypeId} {v : Value} {xs : List Value} (h : w.ownsRow base e size v n xs) : ∀ k, v.ownBlock = some k → ∃ cur, Blk w k e cur := by
  intro k hk
  rcases h.2 with ⟨rfl, _⟩ | ⟨g, cap, cur, rfl, _, hh, _⟩
  · cases hk
  · simp [Value.ownBlock] at hk
    subst hk
    exact ⟨cur, hh⟩
theorem own_adr {w : World} {base n c size : Nat} {e : TypeId} {A : Option Addr} {xs : List Value} (h : w.ownsRow base e size (.slice A n c) n xs) : ∀ ad, A = some ad → base ≤ ad.block ∧ ad.block < w.heap.size := by
  intro ad he
  rcases h.2 with ⟨h1, _⟩ | ⟨g, cap, cur, h1, hg, hh, _⟩
  · injection h1 with h1; rw [h1] at he; cases he
  · injection h1 with h1
    rw [h1] at he
    injection he with he
    rw [← he]
    exact ⟨hg, Blk.lt hh⟩
theorem own_monor {w : World} {base base' n size : Nat} {e : TypeId} {v : Value} {xs : List Value} (h : w.ownsRow base e size v n xs) (hb : base' ≤ base) : w.ownsRow base' e size v n xs := by
  refine ⟨h.1, ?_⟩
  rcases h.2 with h | ⟨g, cap, cur, h1, h2, h3⟩
  · exact .inl h
  · exact .inr ⟨g, cap, cur, h1, Nat.le_trans hb h2, h3⟩
/-- cells that are stored one after the other -/
def setL : List Value → Nat → List Value → List Value
  | l, _, [] => l
  | l, o, v :: r => setL (l.set o v) (o + 1) r
theorem setL_len : ∀ (vs : List Value) (l : List Value) (o : Nat), (setL l o vs).length = l.length
  | [], l, o => rfl
  | v :: r, l, o => by rw [setL, setL_len r, List.length_set]
theorem setL_at : ∀ (vs : List Value) (l : List Value) (o i : Nat), o + vs.length ≤ l.length → (setL l o vs)[i]? = if o ≤ i ∧ i < o + vs.length then vs[i - o]? else l[i]?
  | [], l, o, i, h => by rw [setL, if_neg (by rintro ⟨h1, h2⟩; rw [List.length_nil] at h2; omega)]
  | v :: r, l, o, i, h => by
    rw [List.length_cons] at h
    rw [setL, setL_at r _ _ _ (by rw [List.length_set]; omega), List.length_cons]
    by_cases h1 : i = o
    · subst h1
      rw [if_neg (by omega), if_pos (by omega), List.getElem?_set_self (by omega), Nat.sub_self]
      rfl
    · by_cases h2 : o + 1 ≤ i ∧ i < o + 1 + r.length
      · rw [if_pos h2, if_pos (by omega), show i - o = (i - (o + 1)) + 1 by omega, List.getElem?_cons_succ]
      · rw [if_neg h2, if_neg (by omega), List.getElem?_set_ne (by omega)]
theorem Row.sets {w : World} {g : Nat} {t : TypeId} : ∀ {l : List Value} (_ : Row w g t l) (vs : List Value) (o : Nat), Row (w.setCells g o vs) g t (setL l o vs) := by
  intro l h vs
  induction vs generalizing w l with
  | nil => intro o; exact h
  | cons v r ih => intro o; exact ih (h.set_ o v) (o + 1)
theorem Row.fars {w : World} {g b : Nat} {t : TypeId} {l : List Value} (h : Row w g t l) (e : g ≠ b) (vs : List Value) (o : Nat) : Row (w.setCells b o vs) g t l := by
  induction vs generalizing w o with
  | nil => exact h
  | cons v r ih => exact ih (h.far (p := ⟨b, o, none⟩) e v) (o + 1)
theorem Chg.sets {S : List Nat} {w w' : World} (h : Chg S w w') {b : Nat} (hb : b ∈ S ∨ w.heap.size ≤ b) (vs : List Value) (o : Nat) : Chg S w (w'.setCells b o vs) := by
  induction vs generalizing w' o with
  | nil => exact h
  | cons v r ih => exact ih (h.set_ (p := ⟨b, o, none⟩) hb v) (o + 1)
theorem Chg.cell_ {w w' : World} (h : Chg [] w w') {g : Nat} (hg : g < w.heap.size) {o : Nat} {s : Option Nat} : w'.cell? ⟨g, o, s⟩ = w.cell? ⟨g, o, s⟩ := by
  have := h.block g hg (by simp)
  unfold World.cell?
  rw [this]
theorem Chg.range {w w' : World} (h : Chg [] w w') {g o : Nat} (hg : g < w.heap.size) {V : List Value} (hr : w.rangeAt g o V) : w'.rangeAt g o V := fun j v hv => (h.cell_ hg).trans (hr j v hv)
theorem Row.there {w : World} {g : Nat} {t : TypeId} {l : List Value} (h : Row w g t l) {o n : Nat} (hl : o + n ≤ l.length) : w.there g o n := by
  intro j hj
  rw [h.cell (o + j), List.getElem?_eq_getElem (by omega)]
  exact ⟨rfl, h.frozen _⟩
theorem setL_flat {s : Nat} {x : List Value} (hx : x.length = s) : ∀ (bs : List (List Value)) (_ : ∀ b ∈ bs, b.length = s) (i : Nat), i < bs.length → setL bs.flatten (s * i) x = (bs.set i x).flatten := by
  intro bs hb i hi
  have hfl : ∀ (l : List (List Value)), (∀ b ∈ l, b.length = s) → l.flatten.length = s * l.length := by
    intro l
    induction l with
    | nil => intro _; simp
    | cons a r ih =>
      intro h
      rw [List.flatten_cons, List.length_append, h a (by simp), ih (fun b hb => h b (by simp [hb])), List.length_cons, Nat.mul_succ]
      omega
  have hat : ∀ (l : List (List Value)) (_ : ∀ b ∈ l, b.length = s) (k : Nat), l.flatten[k]? = if s = 0 then none else (l[k / s]?).bind (fun b => b[k % s]?) := by
    intro l
    induction l with
    | nil => intro _ k; simp
    | cons a r ih =>
      intro h k
      have ha := h a (by simp)
      rw [List.flatten_cons]
      rcases Nat.eq_zero_or_pos s with h0 | h0
      · rw [if_pos h0]
        have hz := hfl (a :: r) h
        rw [h0, Nat.zero_mul, List.flatten_cons] at hz
        rw [List.getElem?_eq_none (by omega)]
      · rw [if_neg (by omega)]
        by_cases hk : k < s
        · rw [List.getElem?_append_left (by omega), Nat.div_eq_of_lt hk, Nat.mod_eq_of_lt hk]
          rfl
        · rw [List.getElem?_append_right (by omega), ha, ih (fun b hb => h b (by simp [hb])), if_neg (by omega)]
          have e1 : k / s = (k - s) / s + 1 := by rw [Nat.div_eq_sub_div h0 (by omega)]
          have e2 : k % s = (k - s) % s := by rw [Nat.mod_eq_sub_mod (by omega)]
          rw [e1, e2, List.getElem?_cons_succ]
  have hset : ∀ b ∈ bs.set i x, b.length = s := by
    intro b h
    rcases List.mem_or_eq_of_mem_set h with h | rfl
    · exact hb b h
    · exact hx
  have hl := hfl bs hb
  have hfit : s * i + s ≤ s * bs.length := by rw [← Nat.mul_succ]; exact Nat.mul_le_mul_left _ hi
  apply List.ext_getElem?
  intro k
  rw [setL_at x bs.flatten (s * i) k (by rw [hx, hl]; exact hfit), hat _ hset, hat _ hb, hx]
  rcases Nat.eq_zero_or_pos s with h0 | h0
  · subst h0
    rw [if_neg (by omega)]
    simp
  · simp only [if_neg (show ¬ s = 0 by omega)]
    by_cases hk : s * i ≤ k ∧ k < s * i + s
    · rw [if_pos hk]
      have e1 : k / s = i := by
        have := Nat.div_add_mod k s
        exact Nat.div_eq_of_lt_le (by rw [Nat.mul_comm]; omega) (by rw [Nat.mul_comm, Nat.mul_succ]; omega)
      have e2 : k % s = k - s * i := by have := Nat.div_add_mod k s; rw [e1] at this; omega
      rw [e1, e2, List.getElem?_set_self hi]
      rfl
    · rw [if_neg hk]
      have e1 : i ≠ k / s := by
        intro e
        apply hk
        have := Nat.div_add_mod k s
        have := Nat.mod_lt k h0
        rw [← e] at *
        omega
      rw [List.getElem?_set_ne e1]
theorem flat_len {s : Nat} : ∀ (l : List (List Value)), (∀ b ∈ l, b.length = s) → l.flatten.length = s * l.length := by
  intro l
  induction l with
  | nil => intro _; simp
  | cons a r ih =>
    intro h
    rw [List.flatten_cons, List.length_append, h a (by simp), ih (fun b hb => h b (by simp [hb])), List.length_cons, Nat.mul_succ]
    omega
theorem flat_cell {s : Nat} : ∀ (l : List (List Value)) (_ : ∀ b ∈ l, b.length = s) (i j : Nat) (b : List Value), l[i]? = some b → j < s → l.flatten[s * i + j]? = b[j]? := by
  intro l
  induction l with
  | nil => intro _ i j b h; simp at h
  | cons a r ih =>
    intro h i j b hb hj
    have ha := h a (by simp)
    rw [List.flatten_cons]
    cases i with
    | zero =>
      injection hb with hb
      subst hb
      rw [Nat.mul_zero, Nat.zero_add, List.getElem?_append_left (by omega)]
    | succ i =>
      rw [List.getElem?_append_right (by rw [ha, Nat.mul_succ]; omega), ha, show s * (i + 1) + j - s = s * i + j by rw [Nat.mul_succ]; omega]
      exact ih (fun b hb => h b (by simp [hb])) i j b hb hj
theorem madeCells_rep (z : List Value) (s n : Nat) (hs : z.length = s) (h0 : 0 < s) : madeCells z.toArray (n * s) = ((List.replicate n z).flatten).toArray := by
  have hz := flat_len (s := s) (List.replicate n z) (fun b h => by rw [List.eq_of_mem_replicate h]; exact hs)
  rw [List.length_replicate] at hz
  apply Array.ext_getElem?
  intro k
  have e0 : ((List.replicate n z).flatten).toArray[k]? = ((List.replicate n z).flatten)[k]? := by simp
  rw [e0]
  by_cases hk : k < n * s
  · have hm : k % s < s := Nat.mod_lt _ h0
    have h1 := flat_cell (s := s) (List.replicate n z) (fun b h => by rw [List.eq_of_mem_replicate h]; exact hs) (k / s) (k % s) z (by rw [List.getElem?_replicate, if_pos ((Nat.div_lt_iff_lt_mul h0).2 hk)]) hm
    rw [Nat.div_add_mod] at h1
    rw [h1]
    unfold madeCells
    rw [Array.getElem?_map, Array.getElem?_range, if_pos hk]
    simp only [Option.map_some, List.size_toArray, hs]
    rw [List.getElem?_eq_getElem (show k % s < z.length by omega)]
    congr 1
    exact getElem!_pos z.toArray (k % s) (by simpa [hs] using hm)
  · rw [List.getElem?_eq_none (by rw [hz, Nat.mul_comm]; omega), Array.getElem?_eq_none (by rw [size_madeCells]; omega)]
theorem below_sets {B : Nat} {w w' : World} (h : Below B w w') {b : Nat} (hb : B ≤ b) (vs : List Value) (o : Nat) : Below B w (w'.setCells b o vs) := by
  induction vs generalizing w' o with
  | nil => exact h
  | cons v r ih => exact ih (h.setCell (p := ⟨b, o, none⟩) hb v) (o + 1)
section
variable {P : Program}
theorem run_copy_sz (w : World) (dT sT ty elem : TypeId) (g o dLen dCap : Nat) (a : Addr) (sLen sCap size : Nat) (cur : Array Value) (t : TypeId) (cs : List Value)
    (hu : P.underlying dT = some (.slice elem)) (hs : (P.info? elem).map (·.size) = some size)
    (hg : w.heap[g]? = some (.cells cur t (0, 0))) (hn : cs.length = Nat.min sLen dLen * size)
    (hsrc : ∀ j v, cs[j]? = some v → w.cell? (a.add j) = some v) (hfit : o + cs.length ≤ cur.size) (h1 : ∀ v ∈ cs, v.oneCell' = true) :
    (Builtin.copy_ #[dT, sT] ty #[.slice (some ⟨g, o, none⟩) dLen dCap, .slice (some a) sLen sCap]).run P w =
      .ok (goInt (Nat.min sLen dLen)) (w.setRow g (cur.toList.take o ++ cs ++ cur.toList.drop (o + cs.length)).toArray) := by
  have hl := run_loadCells_list (P := P) w a cs hsrc
  have hst := run_storeCells_at P g o t cs 0 cur w hg (by simpa using hfit) h1
  cases hq : P.info? elem with
  | none => simp [hq] at hs
  | some i =>
    have hi : i.size = size := by simpa [hq] using hs
    simp [Builtin.copy_, run_underlying hu, Builtin.lenOf, Builtin.firstCells, sizeOf, typeInfo, hq, hi, ← hn, hl, hst]
theorem run_copy_zero (w : World) (dT sT ty elem : TypeId) (d a : Option Addr) (dLen dCap sLen sCap size : Nat) (hu : P.underlying dT = some (.slice elem)) (hs : (P.info? elem).map (·.size) = some size) (hn : Nat.min sLen dLen = 0) :
    (Builtin.copy_ #[dT, sT] ty #[.slice d dLen dCap, .slice a sLen sCap]).run P w = .ok (goInt 0) w := by
  cases hq : P.info? elem with
  | none => simp [hq] at hs
  | some i =>
    have hl : ∀ (x : Addr), (loadCells x 0).run P w = .ok #[] w := fun x => by simpa using run_loadCells_list (P := P) w x [] (by simp)
    cases d <;> cases a <;> simp [Builtin.copy_, run_underlying hu, Builtin.lenOf, Builtin.firstCells, sizeOf, typeInfo, hq, hn, storeCells, hl]
/-- copy of elements of any size into a row that is known whole -/
theorem wpList_copy_sz {w : World} {ops : Array Oper} {rest : List Oper} {o : Oper} {a : Act} {Q : Exit → Act → World → Prop} (hgd : o.guard = none) (d s : Operand) (dT sT : TypeId)
    (ho : o.op = .call { callee := .builtin .copy, args := #[d, s], argTypes := #[dT, sT] }) (elem : TypeId) (size : Nat) (hu : P.underlying dT = some (.slice elem)) (hsz : (P.info? elem).map (·.size) = some size)
    (dp sp : Option Addr) (dLen dCap sLen sCap : Nat) (hd : a.eval d = .slice dp dLen dCap) (hs : a.eval s = .slice sp sLen sCap)
    (g off : Nat) (cur : List Value) (t : TypeId) (hg : w.heap[g]? = some (.cells cur.toArray t (0, 0))) (cs : List Value) (hn : cs.length = Nat.min sLen dLen * size)
    (hpos : 0 < Nat.min sLen dLen → dp = some ⟨g, off, none⟩ ∧ ∃ ad, sp = some ad ∧ ∀ j v, cs[j]? = some v → w.cell? (ad.add j) = some v)
    (hfit : off + cs.length ≤ cur.length) (h1 : ∀ v ∈ cs, v.oneCell' = true) (B : Nat) (w0 : World) (hb : Below B w0 w) (hBg : B ≤ g)
    (h : ∀ w', Hid (w'.heap[g]? = some (.cells (splice cur off cs).toArray t (0, 0))) → Below B w0 w' → wpList P ops Q rest (a.put o.dst (goInt (Nat.min sLen dLen))) w') :
    wpList P ops Q (o :: rest) a w := by
  by_cases h0 : Nat.min sLen dLen = 0
  · obtain rfl : cs = [] := List.eq_nil_of_length_eq_zero (by rw [hn, h0, Nat.zero_mul])
    refine wpList_plain hgd fun K hK => ?_
    have hrun := run_copy_zero (P := P) w dT sT o.type elem dp sp dLen dCap sLen sCap size hu hsz h0
    rw [h0] at h
    have h2 := h w (show _ = _ by simpa [splice] using hg) hb
    unfold Oper.wp
    simp [execOp, ho, resolve, invoke, builtin, hd, hs, hrun, Result.andThen]
    exact hK _ _ h2
  · obtain ⟨rfl, ad, rfl, hsrc⟩ := hpos (by omega)
    refine wpList_plain hgd fun K hK => ?_
    have hrun := run_copy_sz (P := P) w dT sT o.type elem g off dLen dCap ad sLen sCap size cur.toArray t cs hu hsz hg hn hsrc (by simpa using hfit) h1
    have h2 := h _ (show _ = _ by simpa [splice] using setRow_heap w g _ _ t _ hg) (below_setRow hb hBg _)
    unfold Oper.wp
    simp [execOp, ho, resolve, invoke, builtin, hd, hs, hrun, Result.andThen]
    exact hK _ _ h2
theorem el_load {ops : Array Oper} {rest : List Oper} {op : Oper} {a : Act} {w : World} {Q : Exit → Act → World → Prop} (hw : Region.wanted op (yielded ops a.tmps) = true) (ty : TypeId) (x : Operand) (ho : op.op = .load ty x)
    (b o : Nat) (hx : a.eval x = .pointer (some ⟨b, o, none⟩)) (cs : List Value) (d : TypeDesc) (hc : w.rangeAt b o cs)
    (hu : P.underlying ty = some d) (hd : d.isRow = true) (hi : (P.info? ty).map (·.size) = some cs.length)
    (h : wpList P ops Q rest (a.put op.dst (.agg cs.toArray)) w) : wpList P ops Q (op :: rest) a w :=
  wpList_wanted hw fun _ hK => wp_load_mid ty x ho b o hx cs d hc hu hd hi (hK _ _ h)
theorem el_range {w : World} {g : Nat} {t : TypeId} {V : List Value} (h : Row w g t V) : w.rangeAt g 0 V := fun j v hv => by rw [Nat.zero_add, h.cell, hv]
theorem el_at {w : World} {g s : Nat} {t : TypeId} {bs : List (List Value)} (h : Row w g t bs.flatten) (hb : ∀ b ∈ bs, b.length = s) {i : Nat} {V : List Value} (hi : bs[i]? = some V) : w.rangeAt g (i * s) V := fun j v hv => by
  have hV := hb V (List.mem_of_getElem? hi)
  rw [h.cell, Nat.mul_comm, flat_cell (s := s) bs hb i j V hi (by have := (List.getElem?_eq_some_iff.1 hv).1; omega), hv]
theorem el_form {w : World} {B s n : Nat} {A : Option Addr} {bs : List (List Value)} (h : Reads w B s A n bs.flatten) (hb : ∀ b ∈ bs, b.length = s) (hl : bs.length = n) (h0s : 0 < s) : ∃ b o, Hid (0 < n → A = some ⟨b, o, none⟩ ∧ b < B ∧ ∀ i V, bs[i]? = some V → w.rangeAt b (o + i * s) V) := by
  rcases Nat.eq_zero_or_pos n with h0 | h0
  · exact ⟨0, 0, fun h => absurd h (by omega)⟩
  · obtain ⟨⟨b, o, sp⟩, rfl, hB, hc⟩ := h.2 h0
    have hx : ∀ i V, bs[i]? = some V → ∀ j v, V[j]? = some v → bs.flatten[s * i + j]? = some v := fun i V hi j v hv => by
      rw [flat_cell (s := s) bs hb i j V hi (by have := (List.getElem?_eq_some_iff.1 hv).1; have := hb V (List.mem_of_getElem? hi); omega), hv]
    have hs : sp = none := by
      obtain ⟨V, hV⟩ : ∃ V, bs[0]? = some V := ⟨_, List.getElem?_eq_getElem (by omega)⟩
      obtain ⟨v, hv⟩ : ∃ v, V[0]? = some v := ⟨_, List.getElem?_eq_getElem (by have := hb V (List.mem_of_getElem? hV); omega)⟩
      have := World.cell?_spot (hc (s * 0 + 0) _ (hx 0 V hV 0 v hv))
      simpa [Addr.add] using this
    subst hs
    refine ⟨b, o, fun _ => ⟨rfl, hB, fun i V hi j v hv => ?_⟩⟩
    have := hc _ _ (hx i V hi j v hv)
    rw [Addr.add_mid] at this
    rw [show o + i * s + j = o + (s * i + j) by rw [Nat.mul_comm]; omega]
    exact this
theorem el_qwant {ops : Array Oper} {C : World → Prop} {Q : Act → Prop} {a : Act} {o : Oper} {rest : List Oper} (hw : Region.wanted o (yielded ops a.tmps) = true) (h : ∀ K : Act → Prop, (∀ a, wpQuiet P ops C Q rest a → K a) → o.quiet P a C K) : wpQuiet P ops C Q (o :: rest) a :=
  wpQuiet_step fun K hK => by rw [if_pos hw]; exact h K hK
theorem el_qload {o : Oper} {a : Act} {C : World → Prop} {K : Act → Prop} (ty : TypeId) (x : Operand) (ho : o.op = .load ty x) (b k : Nat) (hx : a.eval x = .pointer (some ⟨b, k, none⟩)) (cs : List Value) (d : TypeDesc) (hc : ∀ w, C w → w.rangeAt b k cs)
    (hu : P.underlying ty = some d) (hd : d.isRow = true) (hi : (P.info? ty).map (·.size) = some cs.length) (hk : K (a.put o.dst (.agg cs.toArray))) : o.quiet P a C K :=
  ⟨_, fun w hw => by
    unfold Oper.quietAt execOp
    simp only [ho, hx, Instr.loadAt, Instr.sureAddr, Sem.run_bind, Sem.run_pure, Result.andThen_ok, run_loadVar_mid w b k ty cs d (hc w hw) hu hd hi]
    exact ⟨rfl, rfl⟩, hk⟩
theorem el_qbin {o : Oper} {a : Act} {C : World → Prop} {K : Act → Prop} (b : BinOp) (t : TypeId) (x y : Operand) (s : TypeId) (ho : o.op = .binOp b t x y s) {xs ys : Array Value} {v : Value} (hx : a.eval x = .agg xs) (hy : a.eval y = .agg ys) (hm : P.eqGuardType P.depth t = false)
    (hrun : ∀ w, (binOp b t (.agg xs) (.agg ys)).run P w = .ok v w) (hk : K (a.put o.dst v)) : o.quiet P a C K :=
  ⟨_, fun w hw => by
    unfold Oper.quietAt execOp
    simp only [ho, hx, hy, Sem.run_bind, run_eqGuard_agg (hm := hm), hrun, Result.andThen_ok, Sem.run_pure]
    exact ⟨rfl, rfl⟩, hk⟩
end
end Go.Proofs.YtchajbegjajlkaaGreat

/- The plain law of sets of numbers: rising spans that do not touch; the points; that the points tell the spans. -/
set_option linter.unusedVariables false
set_option linter.unusedSimpArgs false
namespace Go.Proofs.YtchajbegjajlkaaGreat
namespace Sp
abbrev S := List (Nat × Nat)
/-- is a point in one of the spans? -/
def has (s : S) (p : Nat) : Bool := s.any fun x => decide (x.1 ≤ p ∧ p ≤ x.2)
theorem has_iff {s : S} {p : Nat} : has s p = true ↔ ∃ x ∈ s, x.1 ≤ p ∧ p ≤ x.2 := by simp [has]
theorem has_nil (p : Nat) : has [] p = false := rfl
theorem has_cons (x : Nat × Nat) (s : S) (p : Nat) : has (x :: s) p = (decide (x.1 ≤ p ∧ p ≤ x.2) || has s p) := rfl
theorem has_app (a b : S) (p : Nat) : has (a ++ b) p = (has a p || has b p) := by simp [has]
/-- rising, not touching, none empty, all within the type -/
structure Nrm (M : Nat) (s : S) : Prop where
  ok : ∀ x ∈ s, x.1 ≤ x.2 ∧ x.2 ≤ M
  up : s.Pairwise fun a b => a.2 + 1 < b.1
theorem Nrm.nil (M : Nat) : Nrm M [] := ⟨by simp, by simp⟩
theorem Nrm.tail {M : Nat} {x : Nat × Nat} {s : S} (h : Nrm M (x :: s)) : Nrm M s := ⟨fun y hy => h.ok y (by simp [hy]), (List.pairwise_cons.1 h.up).2⟩
theorem Nrm.head {M : Nat} {x : Nat × Nat} {s : S} (h : Nrm M (x :: s)) : x.1 ≤ x.2 ∧ x.2 ≤ M ∧ ∀ y ∈ s, x.2 + 1 < y.1 := ⟨(h.ok x (by simp)).1, (h.ok x (by simp)).2, (List.pairwise_cons.1 h.up).1⟩
theorem Nrm.one {M a b : Nat} (h : a ≤ b) (hb : b ≤ M) : Nrm M [(a, b)] := ⟨by simp; omega, by simp⟩
/-- a point below all spans -/
theorem has_low {s : S} {p : Nat} (h : ∀ x ∈ s, p < x.1) : has s p = false := by
  rw [Bool.eq_false_iff]
  intro hc
  obtain ⟨x, hx, h1, _⟩ := has_iff.1 hc
  have := h x hx
  omega
theorem has_high {s : S} {p : Nat} (h : ∀ x ∈ s, x.2 < p) : has s p = false := by
  rw [Bool.eq_false_iff]
  intro hc
  obtain ⟨x, hx, _, h1⟩ := has_iff.1 hc
  have := h x hx
  omega
/-- the points tell the spans -/
theorem ext {M : Nat} : ∀ {s t : S}, Nrm M s → Nrm M t → (∀ p, p ≤ M → has s p = has t p) → s = t
  | [], [], _, _, _ => rfl
  | [], y :: t, _, ht, h => by
    have hy := ht.head
    have := h y.1 (by omega)
    rw [has_nil, has_cons, decide_eq_true ⟨Nat.le_refl _, hy.1⟩] at this
    simp at this
  | x :: s, [], hs, _, h => by
    have hx := hs.head
    have := h x.1 (by omega)
    rw [has_nil, has_cons, decide_eq_true ⟨Nat.le_refl _, hx.1⟩] at this
    simp at this
  | x :: s, y :: t, hs, ht, h => by
    obtain ⟨x1, x2, x3⟩ := hs.head
    obtain ⟨y1, y2, y3⟩ := ht.head
    have key : ∀ {a b : Nat × Nat} {u v : S}, (∀ z ∈ v, b.2 + 1 < z.1) → b.1 ≤ b.2 → has (b :: v) a.1 = true → b.1 ≤ a.1 := by
      intro a b u v hv hb hh
      rw [has_cons] at hh
      rcases Bool.or_eq_true_iff.1 hh with h1 | h1
      · exact (of_decide_eq_true h1).1
      · obtain ⟨z, hz, h2, _⟩ := has_iff.1 h1
        have := hv z hz
        omega
    have e1 : x.1 = y.1 := by
      have h1 : y.1 ≤ x.1 := key (a := x) (u := s) y3 y1 (by rw [← h x.1 (by omega), has_cons, decide_eq_true ⟨Nat.le_refl _, x1⟩]; rfl)
      have h2 : x.1 ≤ y.1 := key (a := y) (u := s) x3 x1 (by rw [h y.1 (by omega), has_cons, decide_eq_true ⟨Nat.le_refl _, y1⟩]; rfl)
      omega
    have no : ∀ {b : Nat × Nat} {v : S}, (∀ z ∈ v, b.2 + 1 < z.1) → has (b :: v) (b.2 + 1) = false := by
      intro b v hv
      rw [has_cons, has_low (s := v) hv, decide_eq_false (by omega)]
      rfl
    have yes : ∀ {b : Nat × Nat} {v : S} {p : Nat}, b.1 ≤ p → p ≤ b.2 → has (b :: v) p = true := by
      intro b v p h1 h2
      rw [has_cons, decide_eq_true ⟨h1, h2⟩]
      rfl
    have e2 : x.2 = y.2 := by
      rcases Nat.lt_trichotomy x.2 y.2 with hl | hl | hl
      · have := h (x.2 + 1) (by omega)
        rw [no x3, yes (by omega) (by omega)] at this
        cases this
      · exact hl
      · have := h (y.2 + 1) (by omega)
        rw [no y3, yes (by omega) (by omega)] at this
        cases this
    obtain ⟨xa, xb⟩ := x
    obtain ⟨ya, yb⟩ := y
    simp only at e1 e2 x1 x2 x3 y1 y2 y3
    subst e1 e2
    congr 1
    refine ext hs.tail ht.tail fun p hp => ?_
    by_cases hin : xa ≤ p ∧ p ≤ xb
    · rw [has_low (s := s) fun z hz => by have := x3 z hz; omega, has_low (s := t) fun z hz => by have := y3 z hz; omega]
    · have := h p hp
      rw [has_cons, has_cons, decide_eq_false hin] at this
      simpa using this
/-- what is left of a set behind a point: the spans that end at it or behind it -/
def from_ (s : S) (p : Nat) : S := s.dropWhile fun x => decide (x.2 < p)
theorem from_has {M : Nat} {s : S} (hs : Nrm M s) {p q : Nat} (h : p ≤ q) : has (from_ s p) q = has s q := by
  induction s with
  | nil => rfl
  | cons x s ih =>
    unfold from_ at ih ⊢
    rw [List.dropWhile_cons]
    by_cases hx : x.2 < p
    · rw [if_pos (by simpa using hx), ih hs.tail, has_cons, decide_eq_false (by omega)]
      rfl
    · rw [if_neg (by simpa using hx)]
theorem from_nrm {M : Nat} {s : S} (hs : Nrm M s) (p : Nat) : Nrm M (from_ s p) :=
  ⟨fun x hx => hs.ok x (List.IsSuffix.mem hx (List.dropWhile_suffix _)), hs.up.sublist (List.IsSuffix.sublist (List.dropWhile_suffix _))⟩
theorem from_head {s : S} {p : Nat} {x : Nat × Nat} {r : S} (h : from_ s p = x :: r) : p ≤ x.2 := by
  induction s with
  | nil => cases h
  | cons y s ih =>
    unfold from_ at ih h
    rw [List.dropWhile_cons] at h
    by_cases hy : y.2 < p
    · rw [if_pos (by simpa using hy)] at h; exact ih h
    · rw [if_neg (by simpa using hy)] at h
      injection h with h _
      rw [← h]
      omega
/-- what is known at a point: is it in, and up to where that is so -/
def look (M : Nat) (s : S) (p : Nat) : Bool × Nat := match from_ s p with
  | [] => (false, M)
  | x :: _ => if p < x.1 then (false, x.1 - 1) else (true, x.2)
theorem look_ok {M : Nat} {s : S} (hs : Nrm M s) {p : Nat} (hp : p ≤ M) : p ≤ (look M s p).2 ∧ (look M s p).2 ≤ M ∧ ∀ q, p ≤ q → q ≤ (look M s p).2 → has s q = (look M s p).1 := by
  unfold look
  cases hf : from_ s p with
  | nil =>
    refine ⟨hp, Nat.le_refl _, fun q h1 h2 => ?_⟩
    rw [← from_has hs h1, hf]; rfl
  | cons x r =>
    have hn := from_nrm hs p
    rw [hf] at hn
    have h1 := from_head hf
    obtain ⟨h2, h3, h4⟩ := hn.head
    simp only
    by_cases hx : p < x.1
    · rw [if_pos hx]
      refine ⟨by simp only; omega, by simp only; omega, fun q h5 h6 => ?_⟩
      simp only at h6 ⊢
      rw [← from_has hs h5, hf]
      exact has_low (fun y hy => by
        rcases List.mem_cons.1 hy with rfl | hy
        · omega
        · have := h4 y hy; omega)
    · rw [if_neg hx]
      refine ⟨h1, h3, fun q h5 h6 => ?_⟩
      simp only at h6 ⊢
      rw [← from_has hs h5, hf, has_cons, decide_eq_true ⟨by omega, h6⟩]
      rfl
/-- one more piece behind the others, joined if it touches -/
def push (out : S) (p last : Nat) : S := match out.getLast? with
  | none => [(p, last)]
  | some y => if y.2 + 1 = p then out.dropLast ++ [(y.1, last)] else out ++ [(p, last)]
theorem push_nil (p l : Nat) : push [] p l = [(p, l)] := rfl
theorem push_snoc (a : S) (y : Nat × Nat) (p l : Nat) : push (a ++ [y]) p l = if y.2 + 1 = p then a ++ [(y.1, l)] else a ++ [y] ++ [(p, l)] := by
  unfold push
  rw [List.getLast?_concat, List.dropLast_concat]
theorem snoc_or (out : S) : out = [] ∨ ∃ a y, out = a ++ [y] := by
  rcases List.eq_nil_or_concat out with h | ⟨a, y, h⟩
  · exact .inl h
  · exact .inr ⟨a, y, by rw [h, List.concat_eq_append]⟩
theorem push_ok {M : Nat} {out : S} (h : Nrm M out) {p l : Nat} (hb : ∀ x ∈ out, x.2 < p) (hp : p ≤ l) (hl : l ≤ M) : Nrm M (push out p l) ∧ (∀ x ∈ push out p l, x.2 ≤ l) ∧ ∀ q, has (push out p l) q = (has out q || decide (p ≤ q ∧ q ≤ l)) := by
  rcases snoc_or out with rfl | ⟨a, y, rfl⟩
  · rw [push_nil]
    exact ⟨Nrm.one hp hl, by simp, fun q => by simp [has]⟩
  · rw [push_snoc]
    have hy := hb y (by simp)
    have hyo := h.ok y (by simp)
    have hap := List.pairwise_append.1 h.up
    have hay : ∀ x ∈ a, x.2 + 1 < y.1 := fun x hx => hap.2.2 x hx y (by simp)
    by_cases he : y.2 + 1 = p
    · rw [if_pos he]
      refine ⟨⟨fun x hx => ?_, List.pairwise_append.2 ⟨hap.1, by simp, fun x hx z hz => ?_⟩⟩, fun x hx => ?_, fun q => ?_⟩
      · rcases List.mem_append.1 hx with hx | hx
        · exact h.ok x (by simp [hx])
        · obtain rfl := List.mem_singleton.1 hx; exact ⟨by simp only; omega, hl⟩
      · obtain rfl := List.mem_singleton.1 hz; exact hay x hx
      · rcases List.mem_append.1 hx with hx | hx
        · have := hb x (by simp [hx]); omega
        · obtain rfl := List.mem_singleton.1 hx; exact Nat.le_refl _
      · rw [has_app, has_app, Bool.or_assoc]
        congr 1
        simp only [has, List.any_cons, List.any_nil, Bool.or_false]
        rw [← Bool.decide_or]
        congr 1
        apply propext
        omega
    · rw [if_neg he]
      refine ⟨⟨fun x hx => ?_, List.pairwise_append.2 ⟨h.up, by simp, fun x hx z hz => ?_⟩⟩, fun x hx => ?_, fun q => ?_⟩
      · rcases List.mem_append.1 hx with hx | hx
        · exact h.ok x hx
        · obtain rfl := List.mem_singleton.1 hx; exact ⟨hp, hl⟩
      · obtain rfl := List.mem_singleton.1 hz
        rcases List.mem_append.1 hx with hx | hx
        · have := hay x hx; simp only; omega
        · obtain rfl := List.mem_singleton.1 hx; simp only; omega
      · rcases List.mem_append.1 hx with hx | hx
        · have := hb x hx; omega
        · obtain rfl := List.mem_singleton.1 hx; exact Nat.le_refl _
      · rw [has_app]
        simp only [has, List.any_cons, List.any_nil, Bool.or_false]
/-- one round of the walk over two sets -/
def piece (f : Bool → Bool → Bool) (M : Nat) (s t out : S) (p : Nat) : S :=
  if f (look M s p).1 (look M t p).1 then push out p (min (look M s p).2 (look M t p).2) else out
theorem piece_ok {f : Bool → Bool → Bool} {M : Nat} {s t out : S} (hs : Nrm M s) (ht : Nrm M t) (h : Nrm M out) {p : Nat} (hp : p ≤ M) (hb : ∀ x ∈ out, x.2 < p) (hq : ∀ q, q < p → has out q = f (has s q) (has t q)) :
    Nrm M (piece f M s t out p) ∧ (∀ x ∈ piece f M s t out p, x.2 ≤ min (look M s p).2 (look M t p).2) ∧ (p ≤ min (look M s p).2 (look M t p).2 ∧ min (look M s p).2 (look M t p).2 ≤ M) ∧ ∀ q, q ≤ min (look M s p).2 (look M t p).2 → has (piece f M s t out p) q = f (has s q) (has t q) := by
  obtain ⟨s1, s2, s3⟩ := look_ok hs hp
  obtain ⟨t1, t2, t3⟩ := look_ok ht hp
  have hl1 : p ≤ min (look M s p).2 (look M t p).2 := by omega
  have hl2 : min (look M s p).2 (look M t p).2 ≤ M := by omega
  obtain ⟨a1, a2, a3⟩ := push_ok h hb hl1 hl2
  unfold piece
  by_cases hf : f (look M s p).1 (look M t p).1 = true
  · rw [if_pos hf]
    refine ⟨a1, a2, ⟨hl1, hl2⟩, fun q h1 => ?_⟩
    rw [a3]
    by_cases h2 : q < p
    · rw [hq q h2, decide_eq_false (by omega), Bool.or_false]
    · rw [decide_eq_true ⟨by omega, h1⟩, Bool.or_true, s3 q (by omega) (by omega), t3 q (by omega) (by omega), hf]
  · rw [if_neg hf]
    refine ⟨h, fun x hx => by have := hb x hx; omega, ⟨hl1, hl2⟩, fun q h1 => ?_⟩
    by_cases h2 : q < p
    · exact hq q h2
    · rw [has_high (fun x hx => by have := hb x hx; omega), s3 q (by omega) (by omega), t3 q (by omega) (by omega)]
      exact (Bool.eq_false_iff.2 hf).symm
/-- how many boundaries are to come: each round but the last goes past one -/
def phiL : S → Nat → Nat
  | [], _ => 0
  | x :: r, p => if p < x.1 then 2 * r.length + 2 else 2 * r.length + 1
def phi (s : S) (p : Nat) : Nat := phiL (from_ s p) p
theorem phiL_le (l : S) (p : Nat) : phiL l p ≤ 2 * l.length := by
  cases l with
  | nil => exact Nat.le_refl _
  | cons x r =>
    show (if p < x.1 then 2 * r.length + 2 else 2 * r.length + 1) ≤ 2 * (r.length + 1)
    split <;> omega
theorem from_le (s : S) (p : Nat) : (from_ s p).length ≤ s.length := (List.dropWhile_suffix _).length_le
theorem phi_le (s : S) (p : Nat) : phi s p ≤ 2 * s.length := by
  have h := from_le s p
  have h2 := phiL_le (from_ s p) p
  unfold phi
  omega
theorem from_mono {s : S} {p q : Nat} (h : p ≤ q) : from_ (from_ s p) q = from_ s q := by
  induction s with
  | nil => rfl
  | cons x r ih =>
    unfold from_ at ih ⊢
    by_cases hx : x.2 < p
    · rw [List.dropWhile_cons, if_pos (by simpa using hx), ih, List.dropWhile_cons, if_pos (by simp; omega)]
    · rw [List.dropWhile_cons, if_neg (by simpa using hx)]
theorem phi_mono {M : Nat} {s : S} (hs : Nrm M s) {p q : Nat} (h : p ≤ q) : phi s q ≤ phi s p := by
  unfold phi
  rw [← from_mono h]
  have hn := from_nrm hs p
  cases hf : from_ s p with
  | nil => exact Nat.le_refl _
  | cons x r =>
    rw [hf] at hn
    by_cases hx : x.2 < q
    · have e : from_ (x :: r) q = from_ r q := by unfold from_; rw [List.dropWhile_cons, if_pos (by simpa using hx)]
      rw [e]
      have h2 := phiL_le (from_ r q) q
      have h3 := from_le r q
      show _ ≤ if p < x.1 then 2 * r.length + 2 else 2 * r.length + 1
      split <;> omega
    · have e : from_ (x :: r) q = x :: r := by unfold from_; rw [List.dropWhile_cons, if_neg (by simpa using hx)]
      rw [e]
      show (if q < x.1 then 2 * r.length + 2 else 2 * r.length + 1) ≤ if p < x.1 then 2 * r.length + 2 else 2 * r.length + 1
      split <;> split <;> omega
theorem phi_step {M : Nat} {s : S} (hs : Nrm M s) {p q : Nat} (hl : (look M s p).2 < M) (hq : (look M s p).2 < q) (hp : p ≤ (look M s p).2) : phi s q < phi s p := by
  have hm := phi_mono hs (show (look M s p).2 + 1 ≤ q by omega)
  refine Nat.lt_of_le_of_lt hm ?_
  have hn := from_nrm hs p
  unfold look at hl hp ⊢
  cases hf : from_ s p with
  | nil => rw [hf] at hl; exact absurd hl (Nat.lt_irrefl _)
  | cons x r =>
    rw [hf] at hl hp hn
    obtain ⟨h1, h2, h3⟩ := hn.head
    simp only at hl hp ⊢
    have hpp : phi s p = if p < x.1 then 2 * r.length + 2 else 2 * r.length + 1 := by unfold phi; rw [hf]; rfl
    rw [hpp]
    have hx2 := from_head hf
    by_cases hx : p < x.1
    · rw [if_pos hx] at hl hp ⊢
      rw [if_pos hx]
      simp only at hl hp ⊢
      have e : from_ s (x.1 - 1 + 1) = x :: r := by
        rw [← from_mono (show p ≤ x.1 - 1 + 1 by omega), hf]
        unfold from_
        rw [List.dropWhile_cons, if_neg (by simp; omega)]
      unfold phi
      rw [e]
      show (if x.1 - 1 + 1 < x.1 then 2 * r.length + 2 else 2 * r.length + 1) < _
      rw [if_neg (by omega)]
      omega
    · rw [if_neg hx] at hl hp ⊢
      rw [if_neg hx]
      simp only at hl hp ⊢
      have e : from_ s (x.2 + 1) = from_ r (x.2 + 1) := by
        rw [← from_mono (show p ≤ x.2 + 1 by omega), hf]
        unfold from_
        rw [List.dropWhile_cons, if_pos (by simp)]
      have h4 : phi s (x.2 + 1) = phi r (x.2 + 1) := by unfold phi; rw [e]
      rw [h4]
      have := phi_le r (x.2 + 1)
      omega
theorem push_len (out : S) (p l : Nat) : (push out p l).length ≤ out.length + 1 := by
  rcases snoc_or out with rfl | ⟨a, y, rfl⟩
  · simp [push_nil]
  · rw [push_snoc]
    split <;> simp
theorem piece_len (f : Bool → Bool → Bool) (M : Nat) (s t out : S) (p : Nat) : (piece f M s t out p).length ≤ out.length + 1 := by
  unfold piece
  split
  · exact push_len _ _ _
  · omega
/-- a round that is not the last goes past a boundary -/
theorem round_phi {M : Nat} {s t : S} (hs : Nrm M s) (ht : Nrm M t) {p : Nat} (hp : p ≤ M) (hl : min (look M s p).2 (look M t p).2 < M) : phi s (min (look M s p).2 (look M t p).2 + 1) + phi t (min (look M s p).2 (look M t p).2 + 1) + 1 ≤ phi s p + phi t p := by
  obtain ⟨s1, s2, _⟩ := look_ok hs hp
  obtain ⟨t1, t2, _⟩ := look_ok ht hp
  rcases Nat.le_total (look M s p).2 (look M t p).2 with h | h
  · rw [Nat.min_eq_left h] at hl ⊢
    have a := phi_step (q := (look M s p).2 + 1) hs hl (by omega) s1
    have b := phi_mono ht (show p ≤ (look M s p).2 + 1 by omega)
    omega
  · rw [Nat.min_eq_right h] at hl ⊢
    have a := phi_step (q := (look M t p).2 + 1) ht hl (by omega) t1
    have b := phi_mono hs (show p ≤ (look M t p).2 + 1 by omega)
    omega
/-- a set that two make: the spans that have these points -/
structure Mk (M : Nat) (f : Bool → Bool → Bool) (s t out : S) : Prop where
  nrm : Nrm M out
  pts : ∀ q, q ≤ M → has out q = f (has s q) (has t q)
theorem Mk.uniq {M : Nat} {f : Bool → Bool → Bool} {s t a b : S} (h : Mk M f s t a) (k : Mk M f s t b) : a = b := ext h.nrm k.nrm fun p hp => by rw [h.pts p hp, k.pts p hp]
theorem nodup_le {α : Type} [DecidableEq α] : ∀ {a b : List α}, a.Nodup → (∀ x ∈ a, x ∈ b) → a.length ≤ b.length
  | [], b, _, _ => Nat.zero_le _
  | x :: a, b, h, hs => by
    obtain ⟨h1, h2⟩ := List.nodup_cons.1 h
    have hx := hs x (by simp)
    have := nodup_le (a := a) (b := b.erase x) h2 (fun y hy => by
      refine (List.mem_erase_of_ne (fun e => h1 (by rw [← e]; exact hy))).2 (hs y (by simp [hy])))
    rw [List.length_erase_of_mem hx] at this
    have hp : 0 < b.length := List.length_pos_of_mem hx
    rw [List.length_cons]
    omega
/-- where a span of a set begins: the point is in, and none right ahead of it -/
theorem start_in {M : Nat} {s : S} (h : Nrm M s) {x : Nat × Nat} (hx : x ∈ s) : has s x.1 = true ∧ (0 < x.1 → has s (x.1 - 1) = false) := by
  refine ⟨has_iff.2 ⟨x, hx, Nat.le_refl _, (h.ok x hx).1⟩, fun h0 => ?_⟩
  rw [Bool.eq_false_iff]
  intro hc
  obtain ⟨y, hy, h1, h2⟩ := has_iff.1 hc
  obtain ⟨i, hi, rfl⟩ := List.getElem_of_mem hx
  obtain ⟨j, hj, rfl⟩ := List.getElem_of_mem hy
  have hp := List.pairwise_iff_getElem.1 h.up
  have oi := h.ok _ hx
  have oj := h.ok _ hy
  rcases Nat.lt_trichotomy i j with hl | hl | hl
  · have := hp i j hi hj hl; omega
  · subst hl; omega
  · have := hp j i hj hi hl; omega
theorem start_of {s : S} {p : Nat} (h1 : has s p = true) (h2 : 0 < p → has s (p - 1) = false) : ∃ x ∈ s, x.1 = p := by
  obtain ⟨x, hx, a, b⟩ := has_iff.1 h1
  refine ⟨x, hx, ?_⟩
  rcases Nat.eq_or_lt_of_le a with e | e
  · exact e
  · have := h2 (by omega)
    rw [Bool.eq_false_iff] at this
    exact absurd (has_iff.2 ⟨x, hx, by omega, by omega⟩) this
theorem starts_nodup {M : Nat} {s : S} (h : Nrm M s) : (s.map (·.1)).Nodup := by
  unfold List.Nodup
  rw [List.pairwise_map]
  refine List.Pairwise.imp_of_mem ?_ h.up
  intro a b ha hb hab e
  have := (h.ok a ha).1
  omega
theorem or_len {M : Nat} {s t out : S} (h : Mk M (fun a b => a || b) s t out) : out.length ≤ s.length + t.length := by
  have := nodup_le (a := out.map (·.1)) (b := s.map (·.1) ++ t.map (·.1)) (starts_nodup h.nrm) (by
    intro p hp
    obtain ⟨x, hx, rfl⟩ := List.mem_map.1 hp
    obtain ⟨h1, h2⟩ := start_in h.nrm hx
    have hxM : x.1 ≤ M := by have := h.nrm.ok x hx; omega
    rw [h.pts x.1 hxM] at h1
    have h3 : 0 < x.1 → has s (x.1 - 1) = false ∧ has t (x.1 - 1) = false := fun h0 => by
      have := h2 h0
      rw [h.pts _ (by omega)] at this
      simpa using this
    rcases Bool.or_eq_true_iff.1 h1 with h4 | h4
    · obtain ⟨y, hy, e⟩ := start_of h4 (fun h0 => (h3 h0).1)
      exact List.mem_append.2 (.inl (List.mem_map.2 ⟨y, hy, e⟩))
    · obtain ⟨y, hy, e⟩ := start_of h4 (fun h0 => (h3 h0).2)
      exact List.mem_append.2 (.inr (List.mem_map.2 ⟨y, hy, e⟩)))
  simpa using this
/-- what two sets make has no more spans than they have ends -/
theorem mk_len {M : Nat} {f : Bool → Bool → Bool} {s t out : S} (hs : Nrm M s) (ht : Nrm M t) (h0 : f false false = false) (h : Mk M f s t out) : out.length ≤ 2 * s.length + 2 * t.length := by
  have := nodup_le (a := out.map (·.1)) (b := s.map (·.1) ++ s.map (fun x => x.2 + 1) ++ (t.map (·.1) ++ t.map (fun x => x.2 + 1))) (starts_nodup h.nrm) (by
    intro p hp
    obtain ⟨x, hx, rfl⟩ := List.mem_map.1 hp
    obtain ⟨h1, h2⟩ := start_in h.nrm hx
    have hxM : x.1 ≤ M := by have := h.nrm.ok x hx; omega
    have key : ∀ (u : S), Nrm M u → (0 < x.1 ∧ has u x.1 ≠ has u (x.1 - 1) ∨ x.1 = 0 ∧ has u x.1 = true) → x.1 ∈ u.map (·.1) ++ u.map (fun x => x.2 + 1) := by
      rintro u hu (⟨hp, hne⟩ | ⟨hp, hh⟩)
      · cases ha : has u x.1
        · cases hb : has u (x.1 - 1)
          · exact absurd (by rw [ha, hb]) hne
          · obtain ⟨y, hy, a, b⟩ := has_iff.1 hb
            refine List.mem_append.2 (.inr (List.mem_map.2 ⟨y, hy, ?_⟩))
            rw [Bool.eq_false_iff] at ha
            rcases Nat.lt_or_ge y.2 x.1 with h | h
            · omega
            · exact absurd (has_iff.2 ⟨y, hy, by omega, h⟩) ha
        · cases hb : has u (x.1 - 1)
          · obtain ⟨y, hy, e⟩ := start_of ha (fun _ => hb)
            exact List.mem_append.2 (.inl (List.mem_map.2 ⟨y, hy, e⟩))
          · exact absurd (by rw [ha, hb]) hne
      · obtain ⟨y, hy, e⟩ := start_of hh (fun h => absurd h (by omega))
        exact List.mem_append.2 (.inl (List.mem_map.2 ⟨y, hy, e⟩))
    rw [h.pts x.1 hxM] at h1
    rcases Nat.eq_zero_or_pos x.1 with hz | hz
    · cases ha : has s x.1
      · cases hb : has t x.1
        · rw [ha, hb, h0] at h1; cases h1
        · exact List.mem_append.2 (.inr (key t ht (.inr ⟨hz, hb⟩)))
      · exact List.mem_append.2 (.inl (key s hs (.inr ⟨hz, ha⟩)))
    · have h3 := h2 hz
      rw [h.pts _ (by omega)] at h3
      by_cases ha : has s x.1 = has s (x.1 - 1)
      · by_cases hb : has t x.1 = has t (x.1 - 1)
        · rw [ha, hb, h3] at h1; cases h1
        · exact List.mem_append.2 (.inr (key t ht (.inl ⟨hz, hb⟩)))
      · exact List.mem_append.2 (.inl (key s hs (.inl ⟨hz, ha⟩))))
  simp at this
  omega
/-- the least point that is not below p -/
def next (s : S) (p : Nat) : Nat × Bool := match from_ s p with
  | [] => (0, false)
  | x :: _ => (max p x.1, true)
theorem next_some {M : Nat} {s : S} (hs : Nrm M s) {p m : Nat} (h : next s p = (m, true)) : p ≤ m ∧ has s m = true ∧ ∀ q, p ≤ q → q < m → has s q = false := by
  unfold next at h
  cases hf : from_ s p with
  | nil => rw [hf] at h; cases h
  | cons x r =>
    rw [hf] at h
    injection h with h _
    have hn := from_nrm hs p
    rw [hf] at hn
    obtain ⟨h2, h3, h4⟩ := hn.head
    have h1 := from_head hf
    refine ⟨by omega, ?_, fun q h5 h6 => ?_⟩
    · rw [← from_has hs (show p ≤ m by omega), hf, has_cons, decide_eq_true ⟨by omega, by omega⟩]; rfl
    · rw [← from_has hs h5, hf]
      exact has_low fun y hy => by
        rcases List.mem_cons.1 hy with rfl | hy
        · omega
        · have := h4 y hy; omega
theorem next_none {M : Nat} {s : S} (hs : Nrm M s) {p : Nat} (h : (next s p).2 = false) : next s p = (0, false) ∧ ∀ q, p ≤ q → has s q = false := by
  unfold next at h ⊢
  cases hf : from_ s p with
  | nil => exact ⟨rfl, fun q h1 => by rw [← from_has hs h1, hf]; rfl⟩
  | cons x r => rw [hf] at h; cases h
end Sp
end Go.Proofs.YtchajbegjajlkaaGreat

/- The plain law of sets made of any spans: sorted, then joined. -/
set_option linter.unusedVariables false
set_option linter.unusedSimpArgs false
namespace Go.Proofs.YtchajbegjajlkaaGreat
namespace Sp
def join1 (out : S) (x : Nat × Nat) : S := match out.getLast? with
  | none => [x]
  | some y => if x.1 ≤ y.2 ∨ x.1 = y.2 + 1 then out.dropLast ++ [(y.1, max y.2 x.2)] else out ++ [x]
theorem join1_nil (x : Nat × Nat) : join1 [] x = [x] := rfl
theorem join1_snoc (a : S) (y x : Nat × Nat) : join1 (a ++ [y]) x = if x.1 ≤ y.2 ∨ x.1 = y.2 + 1 then a ++ [(y.1, max y.2 x.2)] else a ++ [y] ++ [x] := by
  unfold join1
  rw [List.getLast?_concat, List.dropLast_concat]
theorem join1_ok {M : Nat} {out : S} (h : Nrm M out) {x : Nat × Nat} (hx : x.1 ≤ x.2) (hM : x.2 ≤ M) (hb : ∀ y ∈ out, y.1 ≤ x.1) : Nrm M (join1 out x) ∧ (∀ y ∈ join1 out x, y.1 ≤ x.1) ∧ ∀ q, has (join1 out x) q = (has out q || decide (x.1 ≤ q ∧ q ≤ x.2)) := by
  rcases snoc_or out with rfl | ⟨a, y, rfl⟩
  · rw [join1_nil]
    obtain ⟨xa, xb⟩ := x
    exact ⟨Nrm.one hx hM, by simp, fun q => by simp [has]⟩
  · rw [join1_snoc]
    have hy := hb y (by simp)
    have hyo := h.ok y (by simp)
    have hap := List.pairwise_append.1 h.up
    have hay : ∀ z ∈ a, z.2 + 1 < y.1 := fun z hz => hap.2.2 z hz y (by simp)
    by_cases he : x.1 ≤ y.2 ∨ x.1 = y.2 + 1
    · rw [if_pos he]
      refine ⟨⟨fun z hz => ?_, List.pairwise_append.2 ⟨hap.1, by simp, fun z hz u hu => ?_⟩⟩, fun z hz => ?_, fun q => ?_⟩
      · rcases List.mem_append.1 hz with hz | hz
        · exact h.ok z (by simp [hz])
        · obtain rfl := List.mem_singleton.1 hz
          exact ⟨by simp only; omega, by simp only; omega⟩
      · obtain rfl := List.mem_singleton.1 hu; exact hay z hz
      · rcases List.mem_append.1 hz with hz | hz
        · exact hb z (by simp [hz])
        · obtain rfl := List.mem_singleton.1 hz; exact hy
      · rw [has_app, has_app, Bool.or_assoc]
        congr 1
        simp only [has, List.any_cons, List.any_nil, Bool.or_false]
        rw [← Bool.decide_or]
        congr 1
        apply propext
        omega
    · rw [if_neg he]
      refine ⟨⟨fun z hz => ?_, List.pairwise_append.2 ⟨h.up, by simp, fun z hz u hu => ?_⟩⟩, fun z hz => ?_, fun q => ?_⟩
      · rcases List.mem_append.1 hz with hz | hz
        · exact h.ok z hz
        · obtain rfl := List.mem_singleton.1 hz; exact ⟨hx, hM⟩
      · obtain rfl := List.mem_singleton.1 hu
        rcases List.mem_append.1 hz with hz | hz
        · have := hay z hz; omega
        · obtain rfl := List.mem_singleton.1 hz; omega
      · rcases List.mem_append.1 hz with hz | hz
        · exact hb z hz
        · obtain rfl := List.mem_singleton.1 hz; exact Nat.le_refl _
      · rw [has_app]
        simp only [has, List.any_cons, List.any_nil, Bool.or_false]
theorem joins_ok {M : Nat} : ∀ (l out : S), Nrm M out → (∀ x ∈ l, x.1 ≤ x.2 ∧ x.2 ≤ M) → l.Pairwise (fun a b => a.1 ≤ b.1) → (∀ y ∈ out, ∀ x ∈ l, y.1 ≤ x.1) → Nrm M (l.foldl join1 out) ∧ ∀ q, has (l.foldl join1 out) q = (has out q || has l q)
  | [], out, h, _, _, _ => ⟨h, fun q => by simp [has]⟩
  | x :: l, out, h, hl, hp, hb => by
    obtain ⟨p1, p2⟩ := List.pairwise_cons.1 hp
    obtain ⟨a1, a2, a3⟩ := join1_ok h (hl x (by simp)).1 (hl x (by simp)).2 (fun y hy => hb y hy x (by simp))
    obtain ⟨b1, b2⟩ := joins_ok l (join1 out x) a1 (fun y hy => hl y (by simp [hy])) p2 (fun y hy z hz => Nat.le_trans (a2 y hy) (p1 z hz))
    refine ⟨b1, fun q => ?_⟩
    rw [List.foldl_cons, b2, a3, has_cons, Bool.or_assoc]
/-- the spans that are not empty -/
def some_ (l : S) : S := l.filter fun x => decide (x.1 ≤ x.2)
theorem has_some (l : S) (q : Nat) : has (some_ l) q = has l q := by
  unfold has some_
  induction l with
  | nil => rfl
  | cons x l ih =>
    rw [List.filter_cons]
    by_cases hx : x.1 ≤ x.2
    · rw [if_pos (by simpa using hx), List.any_cons, List.any_cons, ih]
    · rw [if_neg (by simpa using hx), List.any_cons, ih, decide_eq_false (by omega)]
      rfl
theorem has_perm {a b : S} (h : a.Perm b) (q : Nat) : has a q = has b q := by
  have : has a q = true ↔ has b q = true := by
    rw [has_iff, has_iff]
    constructor
    · rintro ⟨x, hx, h1⟩; exact ⟨x, h.mem_iff.1 hx, h1⟩
    · rintro ⟨x, hx, h1⟩; exact ⟨x, h.mem_iff.2 hx, h1⟩
  cases ha : has a q <;> cases hb : has b q <;> simp_all
/-- a set of spans: the spans that have their points -/
structure Of (M : Nat) (l out : S) : Prop where
  nrm : Nrm M out
  pts : ∀ q, q ≤ M → has out q = has l q
theorem Of.uniq {M : Nat} {l a b : S} (h : Of M l a) (k : Of M l b) : a = b := ext h.nrm k.nrm fun p hp => by rw [h.pts p hp, k.pts p hp]
theorem of_sorted {M : Nat} {l s : S} (hp : s.Perm (some_ l)) (hs : s.Pairwise fun a b => a.1 ≤ b.1) (hl : ∀ x ∈ l, x.2 ≤ M) : Of M l (s.foldl join1 []) := by
  obtain ⟨h1, h2⟩ := joins_ok s [] (Nrm.nil M) (fun x hx => by
    have := hp.mem_iff.1 hx
    unfold some_ at this
    rw [List.mem_filter] at this
    exact ⟨by simpa using this.2, hl x this.1⟩) hs (by simp)
  exact ⟨h1, fun q _ => by rw [h2, has_nil, Bool.false_or, has_perm hp, has_some]⟩
theorem of_one {M a b : Nat} (h : a ≤ b) (hb : b ≤ M) : Of M [(a, b)] [(a, b)] := ⟨Nrm.one h hb, fun _ _ => rfl⟩
theorem of_none {M a b : Nat} (h : b < a) : Of M [(a, b)] [] := ⟨Nrm.nil M, fun q _ => by
  rw [has_nil, has_cons, decide_eq_false (by omega)]; rfl⟩
end Sp
end Go.Proofs.YtchajbegjajlkaaGreat

/- The walks of sets of numbers: a row's at, the closures, make. -/
set_option linter.unusedVariables false
set_option linter.unusedSimpArgs false
namespace Go.Proofs.YtchajbegjajlkaaGreat
open Go.RowKit
namespace S8
abbrev TOP : Nat := 255
def scell (x : Nat × Nat) : List Value := [.int .u8 (x.1 : Nat), .int .u8 (x.2 : Nat)]
theorem scell_len (s : Sp.S) : ∀ b ∈ s.map scell, b.length = 2 := by
  intro b h
  obtain ⟨x, _, rfl⟩ := List.mem_map.1 h
  rfl
theorem scell_one (s : Sp.S) : ∀ v ∈ (s.map scell).flatten, v.oneCell' = true := by
  intro v h
  obtain ⟨b, hb, hv⟩ := List.mem_flatten.1 h
  obtain ⟨x, _, rfl⟩ := List.mem_map.1 hb
  simp only [scell, List.mem_cons, List.not_mem_nil, or_false] at hv
  rcases hv with rfl | rfl <;> rfl
/-- a list of spans, read -/
def IsS (w : World) (B : Nat) (A : Option Addr) (n : Nat) (s : Sp.S) : Prop := Reads w B 2 A n (s.map scell).flatten ∧ s.length = n ∧ n ≤ 9223372036854775807
theorem IsS.below {w w' : World} {B n : Nat} {A : Option Addr} {s : Sp.S} (h : IsS w B A n s) (hb : Below B w w') : IsS w' B A n s := ⟨h.1.below hb, h.2⟩
theorem IsS.more {w : World} {B B' n : Nat} {A : Option Addr} {s : Sp.S} (h : IsS w B A n s) (hb : B ≤ B') : IsS w B' A n s := ⟨h.1.more hb, h.2⟩
theorem IsS.none_ {w : World} {B : Nat} {A : Option Addr} : IsS w B A 0 [] := ⟨⟨rfl, fun h => absurd h (by omega)⟩, rfl, by omega⟩
theorem IsS.form {w : World} {B n : Nat} {A : Option Addr} {s : Sp.S} (h : IsS w B A n s) : ∃ b o, Hid (0 < n → A = some ⟨b, o, none⟩ ∧ b < B ∧ ∀ i x, s[i]? = some x → w.cell? ⟨b, o + i * 2, none⟩ = some (.int .u8 (x.1 : Nat)) ∧ w.cell? ⟨b, o + i * 2 + 1, none⟩ = some (.int .u8 (x.2 : Nat))) := by
  obtain ⟨b, o, hf⟩ := el_form h.1 (scell_len s) (by rw [List.length_map]; exact h.2.1) (by decide)
  refine ⟨b, o, fun h0 => ?_⟩
  obtain ⟨h1, h2, h3⟩ := hf.out h0
  refine ⟨h1, h2, fun i x hx => ?_⟩
  have hr := h3 i (scell x) (by rw [List.getElem?_map, hx]; rfl)
  have r0 := hr 0 _ rfl
  have r1 := hr 1 _ rfl
  exact ⟨r0, r1⟩
/-- without its first span -/
theorem IsS.tail {w : World} {B n c : Nat} {A : Option Addr} {x : Nat × Nat} {s : Sp.S} (h : IsS w B A (n + 1) (x :: s)) (hc : n + 1 ≤ c) : IsS w B (if c = 1 then A else A.map (·.add 2)) n s := by
  have hl : s.length = n := by have := h.2.1; simp at this; exact this
  have := h.1.cut (k := 1) (cap := c) (by omega) hc
  rw [show n + 1 - 1 = n by omega, show (List.map scell (x :: s)).flatten.drop (1 * 2) = (s.map scell).flatten by rfl, Nat.one_mul] at this
  exact ⟨this, hl, by have := h.2.2; omega⟩
set_option maxRecDepth 100000 in
theorem none_any (a b : Nat) (w : World) : Calls Tryz.prog 37 #[.agg #[.int .u8 (a : Nat), .int .u8 (b : Nat)]] w fun e w' => e = .returned (.bool (decide (b < a))) ∧ Below w.heap.size w w' := by
  go_enter Tryz.func37, Tryz.ntmps37
  go_wp2_with fail
  go_ret
  exact ⟨by simp, (Below.refl _ _).alloc (Nat.le_refl _) _⟩
/-- what a closure of two bools tells -/
def Keeps (g : Nat) (f : Bool → Bool → Bool) : Prop := ∀ (a b : Bool) (w : World), Calls Tryz.prog g #[.bool a, .bool b] w fun e w' => e = .returned (.bool (f a b)) ∧ w = w'
set_option maxRecDepth 100000 in
theorem or_keeps : Keeps 136 (fun a b => a || b) := by
  intro a b w
  cases a
  all_goals
    go_enter Tryz.func136, Tryz.ntmps136
    go_wp2_with fail
    go_ret
    exact ⟨by simp, rfl⟩
set_option maxRecDepth 100000 in
theorem meet_keeps : Keeps 137 (fun a b => a && b) := by
  intro a b w
  cases a
  all_goals
    go_enter Tryz.func137, Tryz.ntmps137
    go_wp2_with fail
    go_ret
    exact ⟨by simp, rfl⟩
set_option maxRecDepth 100000 in
theorem less_keeps : Keeps 138 (fun a b => a && !b) := by
  intro a b w
  cases a
  all_goals
    go_enter Tryz.func138, Tryz.ntmps138
    go_wp2_with fail
    go_ret
    exact ⟨by simp, rfl⟩
/-- a row over what is left of a list -/
def At (w0 w : World) (B g : Nat) (p : Nat) (s : Sp.S) (k : Nat) : Prop := ∃ A n c s', Row w g 270 [.slice A n c] ∧ IsS w B A n s' ∧ n ≤ c ∧ c ≤ 9223372036854775807 ∧ Sp.from_ s' p = Sp.from_ s p ∧ Chg [g] w0 w ∧ n < k
theorem from_cons_lt {x : Nat × Nat} {s : Sp.S} {p : Nat} (h : x.2 < p) : Sp.from_ (x :: s) p = Sp.from_ s p := by
  unfold Sp.from_
  rw [List.dropWhile_cons, if_pos (by simpa using h)]
theorem from_cons_ge {x : Nat × Nat} {s : Sp.S} {p : Nat} (h : ¬ x.2 < p) : Sp.from_ (x :: s) p = x :: s := by
  unfold Sp.from_
  rw [List.dropWhile_cons, if_neg (by simpa using h)]
set_option maxRecDepth 100000 in
set_option maxHeartbeats 1000000 in
theorem at_any (B g p : Nat) (A : Option Addr) (n c : Nat) (s : Sp.S) (w : World) (hr : Row w g 270 [.slice A n c]) (hs : IsS w B A n s) (hB : B ≤ g) (hc : n ≤ c) (hcm : c ≤ 9223372036854775807) (hn : Sp.Nrm TOP s) (hp : p ≤ TOP) :
    Calls Tryz.prog 238 #[.pointer (some ⟨g, 0, none⟩), .int .u8 (p : Nat)] w fun e w' => e = .returned (.tuple #[.bool (Sp.look TOP s p).1, .int .u8 ((Sp.look TOP s p).2 : Nat)]) ∧ ∃ A' n' c' , Row w' g 270 [.slice A' n' c'] ∧ IsS w' B A' n' (Sp.from_ s p) ∧ n' ≤ c' ∧ c' ≤ 9223372036854775807 ∧ Chg [g] w w' := by
  have HA0 : Hid (At w w B g p s (n + 1)) := Lib.hid ⟨A, n, c, s, hr, hs, hc, hcm, rfl, Chg.refl _ _, by omega⟩
  have HNR := Lib.hid hn
  have HLK : Hid (Sp.look TOP s p = match Sp.from_ s p with | [] => (false, TOP) | x :: _ => if p < x.1 then (false, x.1 - 1) else (true, x.2)) := Lib.hid rfl
  obtain ⟨R, hR⟩ : ∃ R, R = Sp.look TOP s p := ⟨_, rfl⟩
  rw [← hR] at HLK ⊢
  obtain ⟨R1, R2⟩ := R
  have HN := Lib.hid hn
  unfold TOP at hp
  clear hr hs hn hR hc hcm
  go_enter Tryz.func238, Tryz.ntmps238
  go_wp2_with fail
  go_loopg [] (n + 1) (fun k wr => Hid (At w wr B g p s k))
  case atStart => exact HA0
  case round =>
    clear HA0
    obtain ⟨A, n, c, s', hr, hs, hc, hcm, hfr, hch, hk⟩ := hrel.out
    have c0 := hr.cell 0
    have f0 := hr.frozen 0
    have hlt := hr.lt
    simp only [List.getElem?_cons_zero] at c0
    have HK : Hid (n < gk) := Lib.hid hk
    have HC := Lib.hid hch
    have HR := Lib.hid hr
    have HS := Lib.hid hs
    have HFR := Lib.hid hfr
    clear hrel hr hch hk hfr
    cases s' with
    | nil =>
      obtain rfl : n = 0 := hs.2.1.symm
      have HF : Hid (Sp.from_ s p = []) := Lib.hid HFR.out.symm
      have HRR : Hid (R1 = false ∧ R2 = 255) := Lib.hid (by
        have h := HLK.out
        rw [HF.out] at h
        injection h with h1 h2
        exact ⟨h1, h2⟩)
      clear hs
      have e1 : bits .xor .u8 0 255 = 255 := by decide
      go_wp2_with fail
      go_ret2
      refine ⟨by rw [HRR.out.1, HRR.out.2]; rfl, A, 0, c, HR.out, by rw [HF.out]; exact IsS.none_, by omega, hcm, HC.out⟩
    | cons x r =>
      obtain ⟨m, rfl⟩ : ∃ m, n = m + 1 := ⟨r.length, by have := hs.2.1; simp at this; omega⟩
      obtain ⟨b, o, hf⟩ := hs.form
      obtain ⟨hA, hbB, hcell⟩ := hf.out (by omega)
      subst hA
      obtain ⟨x0, x1⟩ := hcell 0 x rfl
      rw [Nat.zero_mul, Nat.add_zero] at x0 x1
      have hm63 : m + 1 ≤ 9223372036854775807 := hs.2.2
      have g1 : decide ((0 : Int) < (m : Int) + 1) = true := decide_eq_true (by omega)
      have g2 : (((m : Int) + 1) == 0) = false := by simp; omega
      have g3 : decide (0 < m + 1) = true := decide_eq_true (by omega)
      obtain ⟨xa, xb⟩ := x
      simp only at x0 x1
      clear hf hcell
      by_cases hx : xb < p
      · have g4 : decide (xb < p) = true := decide_eq_true hx
        have HNX := Lib.hid (hs.tail hc)
        have HFX : Hid (Sp.from_ r p = Sp.from_ s p) := Lib.hid (by rw [← HFR.out, from_cons_lt hx])
        clear hs hx
        by_cases h1 : c = 1
        · subst h1
          obtain rfl : m = 0 := by omega
          go_wp2_with fail
          go_roundg (gk - 1)
          case measure => have := HK.out; omega
          case rel => exact Lib.hid ⟨_, 0, 0, r, HR.out.set_ 0 _, ⟨HNX.out.1.setCell (by exact hB) _, HNX.out.2⟩, by omega, by omega, HFX.out, HC.out.set_ (p := ⟨g, 0, none⟩) (.inl (by simp)) _, by have := HK.out; omega⟩
        · have HNX2 : Hid (IsS wr B (some ⟨b, o + 2, none⟩) m r) := Lib.hid (by
            have h := HNX.out
            rw [if_neg h1] at h
            have e : (Option.map (fun x => x.add 2) (some (⟨b, o, none⟩ : Addr))) = some ⟨b, o + 2, none⟩ := by simp [Addr.add]
            rw [e] at h
            exact h)
          go_wp2_with fail
          go_roundg (gk - 1)
          case measure => have := HK.out; omega
          case rel => exact Lib.hid ⟨_, m, c - 1, r, HR.out.set_ 0 _, ⟨HNX2.out.1.setCell (by exact hB) _, HNX2.out.2⟩, by omega, by omega, HFX.out, HC.out.set_ (p := ⟨g, 0, none⟩) (.inl (by simp)) _, by have := HK.out; omega⟩
      · have g4 : decide (xb < p) = false := decide_eq_false hx
        have HF : Hid (Sp.from_ s p = (xa, xb) :: r) := Lib.hid (by rw [← HFR.out, from_cons_ge hx])
        have HLK2 : Hid ((R1, R2) = if p < xa then (false, xa - 1) else (true, xb)) := Lib.hid (by
          have h := HLK.out
          rw [HF.out] at h
          exact h)
        have HHN : Hid (xa ≤ xb ∧ xb ≤ 255) := Lib.hid (by
          have h := Sp.from_nrm HN.out p
          rw [HF.out] at h
          exact ⟨h.head.1, h.head.2.1⟩)
        clear hx hs
        by_cases hy : p < xa
        · have g5 : decide (p < xa) = true := decide_eq_true hy
          have HRR : Hid (R1 = false ∧ R2 = xa - 1) := Lib.hid (by
            have h := HLK2.out
            rw [if_pos hy] at h
            injection h with h1 h2
            exact ⟨h1, h2⟩)
          have e1 : IntKind.u8.wrap ((xa : Int) - 1) = ((xa - 1 : Nat) : Int) := by have := HHN.out; rw [IntKind.wrap_u8]; omega
          clear hy
          go_wp2_with fail
          go_quiet (fail)
          go_wp2_with fail
          go_ret2
          refine ⟨by rw [HRR.out.1, HRR.out.2]; rfl, _, m + 1, c, HR.out.drewN _, by rw [HF.out]; exact ⟨HS.out.1.drewN _, HS.out.2⟩, hc, hcm, HC.out.drewN _⟩
        · have g5 : decide (p < xa) = false := decide_eq_false hy
          have HRR : Hid (R1 = true ∧ R2 = xb) := Lib.hid (by
            have h := HLK2.out
            rw [if_neg hy] at h
            injection h with h1 h2
            exact ⟨h1, h2⟩)
          clear hy
          go_wp2_with fail
          go_quiet (fail)
          go_wp2_with fail
          go_ret2
          refine ⟨by rw [HRR.out.1, HRR.out.2]; rfl, _, m + 1, c, HR.out.drewN _, by rw [HF.out]; exact ⟨HS.out.1.drewN _, HS.out.2⟩, hc, hcm, HC.out.drewN _⟩
end S8
end Go.Proofs.YtchajbegjajlkaaGreat
