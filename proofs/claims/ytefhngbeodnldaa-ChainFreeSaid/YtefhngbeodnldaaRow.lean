/- Slices that grow, in colours: what append does to one. -/
import Derived.Test.YtefhngbeodnldaaMem
set_option linter.unusedVariables false
set_option linter.unusedSimpArgs false
namespace Go.PM
open Go.RowKit

/-- v is a slice of n elements (size cells each, of type E), nil or at the head of a block of colour k; its elements' cells are xs. -/
def Row (w : World) (own : Nat → Nat) (k : Nat) (E : TypeId) (size : Nat) (v : Value) (n : Nat) (xs : List Value) : Prop :=
  xs.length = n * size ∧
  ((v = .slice none 0 0 ∧ n = 0) ∨
   ∃ g cap cur, v = .slice (some ⟨g, 0, none⟩) n cap ∧ Blk w own k g (.cells cur E (0, 0)) ∧ n ≤ cap ∧ cap ≤ maxLen ∧ cur.size = cap * size ∧ cur.toList.take (n * size) = xs)

section
variable {P : Program} {M : Nat → Prop} {w w' : World} {own own' : Nat → Nat} {k : Nat} {E : TypeId} {size n : Nat} {v : Value} {xs : List Value}
theorem Row.nil (w : World) (own : Nat → Nat) (k : Nat) (E : TypeId) (size : Nat) : Row w own k E size (.slice none 0 0) 0 [] := ⟨by simp, .inl ⟨rfl, rfl⟩⟩
theorem Row.ext (h : Row w own k E size v n xs) (e : Ext M w w' own own') (hk : ¬ M k) : Row w' own' k E size v n xs := by
  obtain ⟨h1, h2 | ⟨g, cap, cur, hv, hb, r⟩⟩ := h
  · exact ⟨h1, .inl h2⟩
  · exact ⟨h1, .inr ⟨g, cap, cur, hv, hb.ext e hk, r⟩⟩
theorem Row.below (h : Row w own k E size v n xs) (e : Below w.heap.size w w') (L : Nat) : Row w' (ow own w.heap.size L) k E size v n xs := by
  obtain ⟨h1, h2 | ⟨g, cap, cur, hv, hb, r⟩⟩ := h
  · exact ⟨h1, .inl h2⟩
  · exact ⟨h1, .inr ⟨g, cap, cur, hv, hb.below e L, r⟩⟩
theorem Row.alloc (h : Row w own k E size v n xs) (o : Obj) : Row (w.alloc o) own k E size v n xs := by
  obtain ⟨h1, h2 | ⟨g, cap, cur, hv, hb, r⟩⟩ := h
  · exact ⟨h1, .inl h2⟩
  · exact ⟨h1, .inr ⟨g, cap, cur, hv, hb.alloc o, r⟩⟩
theorem Row.drew (h : Row w own k E size v n xs) : Row w.drew own k E size v n xs := by
  obtain ⟨h1, h2 | ⟨g, cap, cur, hv, hb, r⟩⟩ := h
  · exact ⟨h1, .inl h2⟩
  · exact ⟨h1, .inr ⟨g, cap, cur, hv, hb.drew, r⟩⟩
theorem Row.recol {k' : Nat} (h : Row w own k E size v n xs) (hc : ∀ b, b < w.heap.size → own b = k → own' b = k') : Row w own' k' E size v n xs := by
  obtain ⟨h1, h2 | ⟨g, cap, cur, hv, hb, r⟩⟩ := h
  · exact ⟨h1, .inl h2⟩
  · exact ⟨h1, .inr ⟨g, cap, cur, hv, ⟨hb.at_, hc g hb.lt hb.col⟩, r⟩⟩
theorem Row.shape (h : Row w own k E size v n xs) : ∃ a cap, v = .slice a n cap := by
  obtain ⟨_, ⟨rfl, rfl⟩ | ⟨g, cap, cur, rfl, _⟩⟩ := h
  · exact ⟨_, _, rfl⟩
  · exact ⟨_, _, rfl⟩
/-- Where there is an element: the block, and each cell. -/
theorem Row.cells (h : Row w own k E size v n xs) (hn : 0 < n) : ∃ g cap cur, v = .slice (some ⟨g, 0, none⟩) n cap ∧ Blk w own k g (.cells cur E (0, 0)) ∧ n ≤ cap ∧ cur.size = cap * size ∧ cur.toList.take (n * size) = xs ∧ ∀ j, j < n * size → w.cell? ⟨g, j, none⟩ = xs[j]? := by
  obtain ⟨h1, ⟨rfl, rfl⟩ | ⟨g, cap, cur, rfl, hb, hc, _, hs, ht⟩⟩ := h
  · omega
  · refine ⟨g, cap, cur, rfl, hb, hc, hs, ht, fun j hj => ?_⟩
    rw [hb.cell, ← ht, List.getElem?_take, if_pos hj, Array.getElem?_toList]
/-- append(v, news..), news at a: in its block or a new one. -/
theorem run_append (t ty : TypeId) (i : TypeInfo) (z : Value) (bytes : Nat) (ht : P.underlying t = some (.slice E)) (hi : P.info? E = some i) (hz : i.zero = some z)
    (hsize : i.size = size) (hby : i.bytes = bytes) (hzs : z.cells.size = size) (hsz : 0 < size)
    (h : Row w own k E size v n xs)
    (a : Addr) (m c : Nat) (news : List Value) (hl : news.length = m * size) (hnews : ∀ j u, news[j]? = some u → w.cell? (a.add j) = some u) (h1 : ∀ u ∈ news, u.oneCell' = true)
    (h63 : n + m ≤ maxLen) (hbytes : (n + m) * bytes ≤ 140737488355328) :
    ∃ v' w', (Builtin.append_ #[t, t] ty #[v, .slice (some a) m c]).run P w = .ok v' w' ∧ Row w' (ow own w.heap.size k) k E size v' (n + m) (xs ++ news) ∧ Ext (fun c => c = k) w w' own (ow own w.heap.size k) ∧ w.grownBy w' v.ownBlock := by
  subst hsize
  subst hby
  have hsmall : n + m ≤ 9223372036854775807 := by simp only [maxLen] at h63; omega
  have hlen : (xs ++ news).length = (n + m) * i.size := by rw [List.length_append, h.1, hl, Nat.add_mul]
  have grown : ∀ (old : Nat), old < n + m →
      Row (w.drew.alloc (.cells (xs.toArray ++ news.toArray ++ Builtin.zeroCells z.cells (grownCap w (n + m) old E - (n + m))) E)) (ow own w.heap.size k) k E i.size
        (.slice (some ⟨w.heap.size, 0, none⟩) (n + m) (grownCap w (n + m) old E)) (n + m) (xs ++ news) ∧
      Ext (fun c => c = k) w (w.drew.alloc (.cells (xs.toArray ++ news.toArray ++ Builtin.zeroCells z.cells (grownCap w (n + m) old E - (n + m))) E)) own (ow own w.heap.size k) ∧
      ∀ row, w.grownBy (w.drew.alloc (.cells (xs.toArray ++ news.toArray ++ Builtin.zeroCells z.cells (grownCap w (n + m) old E - (n + m))) E)) row := by
    intro old ho
    have hge := grownCap_ge w (n + m) old E
    have hcm : grownCap w (n + m) old E ≤ maxLen := grownCap_le_maxLen w (n + m) old E h63
    refine ⟨⟨hlen, .inr ⟨w.heap.size, _, _, rfl, Blk.new w.drew _ (ow_ge (Nat.le_refl _)), hge, hcm, ?_, ?_⟩⟩, (Ext.refl.ow k).drew.alloc _, fun row => ⟨rfl, rfl, rfl, by simp, fun b hb _ => Go.heap_alloc_old w.drew _ (h := hb)⟩⟩
    · simp only [Array.size_append, List.size_toArray, size_zeroCells, hzs, h.1, hl, ← Nat.add_mul]
      congr 1
      omega
    · simp only [Array.toList_append, List.append_assoc]
      rw [← List.append_assoc, ← hlen]
      exact List.take_left
  rcases h.2 with ⟨rfl, rfl⟩ | ⟨g, cap, cur, rfl, hg, hnc, hcm, hcs, htake⟩
  · have hx : xs = [] := List.eq_nil_of_length_eq_zero (by simpa using h.1)
    subst hx
    by_cases hm : m = 0
    · subst hm
      have hn : news = [] := List.eq_nil_of_length_eq_zero (by simpa using hl)
      subst hn
      refine ⟨.slice none 0 0, w, ?_, Row.nil _ _ _ _ _, Ext.refl.ow k, ⟨rfl, rfl, rfl, Nat.le_refl _, fun _ _ _ => rfl⟩⟩
      simp [Builtin.append_, run_underlying ht, sizeOf, typeInfo, hi, Builtin.lenOf, Builtin.firstCells, loadCells, loadCellsFrom]
    · have hr := run_append_nil (P := P) w t ty E i z ht hi hz a m c news hl hnews (by omega) (by omega) (by have hb := hbytes; simp only [Nat.zero_add] at hb; omega)
      have hgr := grown 0 (by omega)
      simp only [Nat.zero_add, List.nil_append, Array.empty_append] at hgr ⊢
      exact ⟨_, _, hr, hgr.1, hgr.2.1, hgr.2.2 _⟩
  · by_cases hroom : n + m ≤ cap
    · have hfit : n * i.size + news.length ≤ cur.size := by rw [hl, hcs, ← Nat.add_mul]; exact Nat.mul_le_mul_right _ hroom
      have hr := Go.run_append_room (P := P) w t ty E i ht hi g n cap cur hg.at_ a m c news hl hnews h1 hroom hfit
      refine ⟨_, _, hr, ⟨hlen, .inr ⟨g, cap, _, rfl, ⟨setRow_heap w g cur _ E _ hg.at_, by rw [ow_lt hg.lt]; exact hg.col⟩, hroom, hcm, ?_, ?_⟩⟩, ?_, ⟨rfl, rfl, rfl, by simp, fun b _ hb => setRow_other w g b _ (fun e => hb (by simp [Value.ownBlock, e]))⟩⟩
      · simp only [List.size_toArray, List.length_append, List.length_take, List.length_drop, Array.length_toList]
        omega
      · rw [htake, ← hlen]
        exact List.take_left
      · refine ⟨rfl, rfl, rfl, by simp, fun b hb => ow_lt hb, fun b hb hn => setRow_other w g b _ (fun e => hn (by subst e; exact hg.col))⟩
    · have holds : ∀ j u, xs[j]? = some u → w.cell? ((⟨g, 0, none⟩ : Addr).add j) = some u := by
        intro j u hu
        have hadd : (⟨g, 0, none⟩ : Addr).add j = ⟨g, j, none⟩ := by unfold Addr.add; split <;> simp_all
        rw [hadd, hg.cell]
        rw [← htake, List.getElem?_take] at hu
        split at hu
        · simpa using hu
        · cases hu
      have hr := run_append_grow (P := P) w t ty E i z ht hi hz ⟨g, 0, none⟩ n cap xs h.1 holds a m c news hl hnews (by omega) (by omega) (growslice_fits (by omega) hbytes)
      have hgr := grown cap (by omega)
      exact ⟨_, _, hr, hgr.1, hgr.2.1, hgr.2.2 _⟩
/-- The law at the operation: 'append(v, news..)', both slices in slots. -/
theorem wpList_append_row {ops : Array Oper} {rest : List Oper} {o : Oper} {a : Act} {Q : Exit → Act → World → Prop} (hgd : o.guard = none) (s x : Operand) (t : TypeId)
    (ho : o.op = .call { callee := .builtin .append, args := #[s, x], argTypes := #[t, t] })
    (i : TypeInfo) (z : Value) (bytes : Nat) (ht : P.underlying t = some (.slice E)) (hi : P.info? E = some i) (hz : i.zero = some z)
    (hsize : i.size = size) (hby : i.bytes = bytes) (hzs : z.cells.size = size) (hsz : 0 < size)
    (hs : a.eval s = v) (hrow : Row w own k E size v n xs)
    (ad : Addr) (m c : Nat) (news : List Value) (hx : a.eval x = .slice (some ad) m c) (hl : news.length = m * size) (hnews : ∀ j u, news[j]? = some u → w.cell? (ad.add j) = some u) (h1 : ∀ u ∈ news, u.oneCell' = true)
    (h63 : n + m ≤ maxLen) (hbytes : (n + m) * bytes ≤ 140737488355328)
    (h : ∀ v' w', Row w' (ow own w.heap.size k) k E size v' (n + m) (xs ++ news) → Ext (fun c => c = k) w w' own (ow own w.heap.size k) → w.grownBy w' v.ownBlock → wpList P ops Q rest (a.put o.dst v') w') : wpList P ops Q (o :: rest) a w := by
  refine wpList_plain hgd fun K hK => ?_
  obtain ⟨v', w', hr, h2, h3, h4⟩ := run_append (P := P) t o.type i z bytes ht hi hz hsize hby hzs hsz hrow ad m c news hl hnews h1 h63 hbytes
  unfold Oper.wp execOp
  simp only [ho, resolve, invoke, builtin, Sem.run_bind, Sem.run_pure, Result.andThen_ok, List.map_toArray, List.map_cons, List.map_nil, hs, hx, hr]
  exact hK _ _ (h v' w' h2 h3 h4)
end
/-- Behind an append: a block that is not the slice's own. -/
theorem Blk.grown {w w' : World} {own own' : Nat → Nat} {k b : Nat} {o : Obj} {row : Option Nat} (h : Blk w own k b o) (hg : w.grownBy w' row) (hb : some b ≠ row) (hc : own' b = k) : Blk w' own' k b o :=
  ⟨by rw [hg.block b h.lt hb]; exact h.at_, hc⟩
theorem one_cell {w : World} {b : Nat} {x : Value} (h : w.cell? ⟨b, 0, none⟩ = some x) : ∀ j u, ([x] : List Value)[j]? = some u → w.cell? ((⟨b, 0, none⟩ : Addr).add j) = some u := by
  intro j u hu
  cases j with
  | zero => simp at hu; subst hu; exact h
  | succ j => simp at hu
theorem one_ok {x : Value} (h : x.oneCell' = true) : ∀ u ∈ ([x] : List Value), u.oneCell' = true := by
  intro u hu
  simp only [List.mem_singleton] at hu
  subst hu
  exact h
/-- The newest block's first cell. -/
theorem new_cell {w : World} {n : Nat} {x : Value} {T : TypeId} (hn : n = w.heap.size) : (w.alloc (.cells #[x] T)).cell? ⟨n, 0, none⟩ = some x := by
  subst hn; simp
/-- Colours of a call that only makes memory: 0 what was there, 1 what it makes. -/
def fresh (n : Nat) : Nat → Nat := PM.ow (fun _ => 0) n 1
theorem fresh_ow {n m : Nat} (h : n ≤ m) : PM.ow (fresh n) m 1 = fresh n := by
  funext b
  simp only [fresh, PM.ow]
  split
  · rfl
  · rw [if_neg (by omega)]
theorem Ext.freshBelow {w w' : World} {n : Nat} {own' : Nat → Nat} (h : Ext (fun c => c = 1) w w' (fresh n) own') (hn : n ≤ w.heap.size) : Below n w w' :=
  ⟨h.os, h.tape, h.output, h.size, fun b hb => h.same b (by omega) (by simp [fresh, PM.ow, hb])⟩
theorem fresh_one {n b : Nat} (h : fresh n b = 1) : n ≤ b := by
  simp only [fresh, PM.ow] at h
  split at h
  · cases h
  · omega
end Go.PM
