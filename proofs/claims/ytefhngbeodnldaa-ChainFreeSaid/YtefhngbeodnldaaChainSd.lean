/- Layer 5's laws: a step, plain: what it makes of the law's world, what it asks for. -/
import Derived.Test.YtefhngbeodnldaaChainWorld
set_option linter.unusedVariables false
set_option linter.unusedSimpArgs false
namespace Go.Proofs.Ytefhngbeodnldaa
open Go.RowKit Go.PM
/-- A thread's operation, stepped. -/
def LV.run (L : LV) (t : Nat) (O : CO) : LV := { L with V := stV L.V L.Y L.B O, Y := stY L.V L.Y L.B O, op := upd L.op t (some (stO L.V L.Y L.B O)) }
def LV.eff (L : LV) (t : Nat) : LV := { L with m := effM L.m (L.what t), want := upd L.want t (effA L.m (L.what t)), did := upd L.did t true }
def LV.mid (L : LV) (t : Nat) (O : CO) : LV := if O.done = false ∧ (stO L.V L.Y L.B O).done = true then (L.run t O).eff t else L.run t O
def LV.step (L : LV) (t : Nat) (O : CO) : LV := if (stO L.V L.Y L.B O).next = 11 then { L.mid t O with op := upd L.op t none } else L.mid t O
structure StepOk (L : LV) (t : Nat) (O O' : CO) : Prop where
  ok : StOk L.V L.Y L.B O
  was : O.done = true → O'.done = true
  mb : ∀ p ∈ L.m, p.1.length ≤ 900 ∧ 0 ≤ p.2 ∧ p.2 ≤ 1000000000000000
  vl : O'.values.length ≤ 1000
  did : O'.next = 11 → (L.mid t O).did t = true → O'.answer = (L.mid t O).want t
  not : O'.next = 11 → (L.mid t O).did t = false → O'.ok = false ∧ O'.stamp = 0 ∧ O'.values = [] ∧
    ((O'.err = 1 ∧ ((L.what t).chain < 1 ∨ (L.m.length : Int) < (L.what t).chain)) ∨ (O'.err = 3 ∧ (L.what t).kind < 3) ∨ ((O'.err = 43 ∨ O'.err = 21) ∧ (L.what t).kind < 4))
def StepPost (q : Nat) (P : LB) (L' : LV) (ad : Nat → Nat) (t : Nat) (w : World) (own : Nat → Nat) (e : Ending) (w' : World) : Prop :=
  e = .returned (.bool true) ∧ ∃ own', LAt q P L' ad w' own' ∧ Ext (fun c => c = q ∨ c = q + 1 ∨ c = q + 2 ∨ c = q + 4 ∨ c = q + 5 ∨ OpC (q + 10 + 4 * t) c) w w' own own'
def MidPost (q : Nat) (P : LB) (L' : LV) (ad : Nat → Nat) (t : Nat) (w : World) (own : Nat → Nat) (w' : World) : Prop :=
  ∃ own', LAt q P L' ad w' own' ∧ Ext (fun c => c = q ∨ c = q + 1 ∨ c = q + 2 ∨ c = q + 4 ∨ c = q + 5 ∨ OpC (q + 10 + 4 * t) c) w w' own own'
/-- What a step looks at. -/
def StCells (P : LB) (L : LV) (t : Nat) (w : World) : Prop :=
  w.cell? ⟨P.W, 3, none⟩ = some (.slice (some ⟨P.po, 0, none⟩) 9 9) ∧ w.cell? ⟨P.W, 4, none⟩ = some (.slice (some ⟨P.pw, 0, none⟩) 9 9) ∧ w.cell? ⟨P.W, 5, none⟩ = some (.slice (some ⟨P.pd, 0, none⟩) 9 9) ∧ w.cell? ⟨P.W, 7, none⟩ = some (.slice (some ⟨P.pn, 0, none⟩) 9 9) ∧ P.W < w.heap.size ∧
  w.cell? ⟨P.pw, t * 4, none⟩ = some (.int .i64 (L.what t).kind) ∧ w.cell? ⟨P.pw, t * 4 + 1, none⟩ = some (.int .i64 (L.what t).t) ∧ w.cell? ⟨P.pw, t * 4 + 2, none⟩ = some (.int .i64 (L.what t).chain) ∧ w.cell? ⟨P.pw, t * 4 + 3, none⟩ = some (.int .i64 (L.what t).v) ∧ P.pw < w.heap.size ∧
  w.cell? ⟨P.pd, t, none⟩ = some (.bool (L.did t)) ∧ P.po < w.heap.size ∧ P.pd < w.heap.size ∧ P.pn < w.heap.size
theorem LAt.look {q : Nat} {P : LB} {L : LV} {ad : Nat → Nat} {w : World} {own : Nat → Nat} (h : LAt q P L ad w own) {t : Nat} (ht : t < 9) : StCells P L t w := by
  obtain ⟨mv, hbx, -⟩ := h.box
  obtain ⟨h0, h1, h2, h3⟩ := h.whatc ht
  obtain ⟨vs, hn, -⟩ := h.want
  rw [Nat.mul_comm] at h0 h1 h2 h3
  exact ⟨hbx.cell 3, hbx.cell 4, hbx.cell 5, hbx.cell 7, hbx.lt, h0, h1, h2, h3, h.what.lt, h.didc ht, h.ops.lt, h.did.lt, hn.lt⟩
theorem updN_updN {α : Type} (f : Nat → α) (t : Nat) (x y : α) : upd (upd f t x) t y = upd f t y := by
  funext i
  unfold upd
  split <;> rfl
theorem Vw.po {w : World} {own : Nat → Nat} {k po : Nat} {T : TypeId} {f : Nat → Option CO} {ad : Nat → Nat} {v : Value} {xs : List Int} (h : Vw w v xs) (hb : Blk w own k po (.cells (ptrs f ad).toArray T (0, 0))) (i : Nat) (x : Value) : Vw (w.setCell ⟨po, i, none⟩ x) v xs := by
  obtain ⟨h1, h | ⟨g, off, c, h2, h3, h4, h5, h6⟩⟩ := h
  · exact ⟨h1, .inl h⟩
  · refine ⟨h1, .inr ⟨g, off, c, h2, h3, h4, by simpa using h5, fun j y hj => ?_⟩⟩
    have hc := h6 j y hj
    by_cases hg : g = po
    · subst hg
      rw [hb.cell] at hc
      unfold ptrs at hc
      rw [List.getElem?_toArray, List.getElem?_map] at hc
      cases hr : (List.range 9)[off + j]? with
      | none => rw [hr] at hc; cases hc
      | some n => rw [hr] at hc; injection hc with hc; cases hc
    · have hs : (w.setCell ⟨po, i, none⟩ x).heap[g]? = w.heap[g]? := heap_setCell_other _ _ _ _ hg
      unfold World.cell? at hc ⊢
      simp only [hs]
      exact hc
theorem AnsAt.po {w : World} {own : Nat → Nat} {k po : Nat} {T : TypeId} {f : Nat → Option CO} {ad : Nat → Nat} {v : Value} {A : AnsV} (h : AnsAt w v A) (hb : Blk w own k po (.cells (ptrs f ad).toArray T (0, 0))) (i : Nat) (x : Value) : AnsAt (w.setCell ⟨po, i, none⟩ x) v A := by
  obtain ⟨a, l, c, h1, h2⟩ := h
  exact ⟨a, l, c, h1, h2.po hb i x⟩
theorem AnsAt.shape {w : World} {v : Value} {A : AnsV} (h : AnsAt w v A) : ∃ a c, v = .agg #[.int .i64 A.err, .bool A.ok, .int .i64 A.stamp, .slice a A.values.length c] := by
  obtain ⟨a, l, c, h1, h2⟩ := h
  obtain ⟨a', c', h3, -⟩ := h2.open
  exact ⟨a', c', by rw [h1, h3]⟩
theorem LAt.wantAt {q : Nat} {P : LB} {L : LV} {ad : Nat → Nat} {w : World} {own : Nat → Nat} (h : LAt q P L ad w own) {t : Nat} (ht : t < 9) : ∃ a c, w.cell? ⟨P.pn, t * 4, none⟩ = some (.int .i64 (L.want t).err) ∧ w.cell? ⟨P.pn, t * 4 + 1, none⟩ = some (.bool (L.want t).ok) ∧ w.cell? ⟨P.pn, t * 4 + 2, none⟩ = some (.int .i64 (L.want t).stamp) ∧ w.cell? ⟨P.pn, t * 4 + 3, none⟩ = some (.slice a (L.want t).values.length c) ∧
    AnsAt w (.agg #[.int .i64 (L.want t).err, .bool (L.want t).ok, .int .i64 (L.want t).stamp, .slice a (L.want t).values.length c]) (L.want t) := by
  obtain ⟨vs, hn, hv⟩ := h.want
  obtain ⟨g0, g1, g2, g3⟩ := wants_get L.want vs ht
  rw [Nat.mul_comm] at g0 g1 g2 g3
  obtain ⟨a, c, he⟩ := (hv t ht).shape
  have hvw := (hv t ht).vw
  rw [he] at g3 hvw
  exact ⟨a, c, (hn.cell _).trans g0, (hn.cell _).trans g1, (hn.cell _).trans g2, (hn.cell _).trans g3, a, _, c, rfl, hvw⟩
/-- What the last comparison looks at. -/
def OvI (P : LB) (n3 t : Nat) (A W : AnsV) (aa aw : Option Addr) (ca cw : Nat) (w : World) : Prop :=
  w.cell? ⟨n3, 0, none⟩ = some (.int .i64 A.err) ∧ w.cell? ⟨n3, 1, none⟩ = some (.bool A.ok) ∧ w.cell? ⟨n3, 2, none⟩ = some (.int .i64 A.stamp) ∧ w.cell? ⟨n3, 3, none⟩ = some (.slice aa A.values.length ca) ∧ w.cell? ⟨P.W, 7, none⟩ = some (.slice (some ⟨P.pn, 0, none⟩) 9 9) ∧
  w.cell? ⟨P.pn, t * 4, none⟩ = some (.int .i64 W.err) ∧ w.cell? ⟨P.pn, t * 4 + 1, none⟩ = some (.bool W.ok) ∧ w.cell? ⟨P.pn, t * 4 + 2, none⟩ = some (.int .i64 W.stamp) ∧ w.cell? ⟨P.pn, t * 4 + 3, none⟩ = some (.slice aw W.values.length cw) ∧ n3 < w.heap.size ∧ P.W < w.heap.size ∧ P.pn < w.heap.size
theorem OvI.below {P : LB} {n3 t : Nat} {A W : AnsV} {aa aw : Option Addr} {ca cw : Nat} {w w' : World} (h : OvI P n3 t A W aa aw ca cw w) (hB : Below w.heap.size w w') : OvI P n3 t A W aa aw ca cw w' := by
  obtain ⟨b0, b1, b2, b3, x7, c0, c1, c2, c3, l1, l2, l3⟩ := h
  have hs := hB.size
  refine ⟨?_, ?_, ?_, ?_, ?_, ?_, ?_, ?_, ?_, by omega, by omega, by omega⟩
  · rw [hB.cell (p := ⟨n3, 0, none⟩) l1]; exact b0
  · rw [hB.cell (p := ⟨n3, 1, none⟩) l1]; exact b1
  · rw [hB.cell (p := ⟨n3, 2, none⟩) l1]; exact b2
  · rw [hB.cell (p := ⟨n3, 3, none⟩) l1]; exact b3
  · rw [hB.cell (p := ⟨P.W, 7, none⟩) l2]; exact x7
  · rw [hB.cell (p := ⟨P.pn, t * 4, none⟩) l3]; exact c0
  · rw [hB.cell (p := ⟨P.pn, t * 4 + 1, none⟩) l3]; exact c1
  · rw [hB.cell (p := ⟨P.pn, t * 4 + 2, none⟩) l3]; exact c2
  · rw [hB.cell (p := ⟨P.pn, t * 4 + 3, none⟩) l3]; exact c3
theorem LV.mid_did {L : LV} {t : Nat} {O : CO} (h : (L.mid t O).did t = false) : (L.mid t O).m = L.m := by
  unfold LV.mid at h ⊢
  split at h
  · have : upd (L.run t O).did t true t = false := h
    rw [upd_same] at this
    cases this
  · rename_i hn
    rw [if_neg hn]
    rfl
theorem LV.mid_what (L : LV) (t : Nat) (O : CO) : (L.mid t O).what = L.what := by
  unfold LV.mid
  split <;> rfl
theorem LV.mid_op (L : LV) (t : Nat) (O : CO) : (L.mid t O).op = upd L.op t (some (stO L.V L.Y L.B O)) := by
  unfold LV.mid
  split <;> rfl
end Go.Proofs.Ytefhngbeodnldaa
