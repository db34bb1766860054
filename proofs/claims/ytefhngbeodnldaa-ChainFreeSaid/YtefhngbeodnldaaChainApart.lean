/- ChainApart: chains have nothing to do with one another: the walk. -/
import Derived.Test.YtefhngbeodnldaaChainList2
import Derived.Test.YtefhngbeodnldaaArgs
set_option maxRecDepth 20000
set_option linter.unusedVariables false
set_option linter.unusedSimpArgs false
namespace Go.Proofs.Ytefhngbeodnldaa
open Go.RowKit Go.PM
/-- What an operation makes of one chain. -/
def seq1 (kd v : Int) (p : List Int × Int) : List Int × Int :=
  if kd < 3 ∧ 200 ≤ p.1.length then p else if kd = 4 ∨ (kd = 3 ∧ p.1.contains v = false) then p else (aft ⟨kd, 0, 0, v⟩ p.1, p.2 + 1)
theorem aft_as (A : AskV) (l : List Int) : aft A l = aft ⟨A.kind, 0, 0, A.v⟩ l := rfl
theorem getD_set_at {α : Type} (l : List α) (c : Nat) (x d : α) (h : c < l.length) : (l.set c x).getD c d = x := by
  rw [List.getD_eq_getElem?_getD, List.getElem?_set_self h]; rfl
theorem seqM_len (m : RB) (A : AskV) : (seqM m A).length = m.length := by
  unfold seqM
  split
  · rfl
  · exact effM_len _ _
theorem seqM_at {m : RB} {A : AskV} {c : Nat} (hc : c < m.length) (ha : A.chain = (c : Int) + 1) (hk : 1 ≤ A.kind ∧ A.kind ≤ 4) : (seqM m A).getD c ([], 0) = seq1 A.kind A.v (m.getD c ([], 0)) ∧ ∀ c', c' ≠ c → (seqM m A).getD c' ([], 0) = m.getD c' ([], 0) := by
  obtain ⟨e1, e2, e3⟩ := eff_at hc ha
  unfold seqM seq1
  by_cases hf : fullM m A
  · rw [if_pos hf]
    unfold fullM at hf
    rw [e2] at hf
    rw [if_pos hf]
    exact ⟨rfl, fun _ _ => rfl⟩
  · rw [if_neg hf]
    unfold fullM at hf
    rw [e2] at hf
    rw [if_neg hf]
    by_cases h4 : A.kind = 4
    · obtain ⟨g1, -⟩ := eff_all hc ha h4
      rw [g1, if_pos (.inl h4)]
      exact ⟨rfl, fun _ _ => rfl⟩
    · by_cases h3 : A.kind = 3 ∧ (m.getD c ([], 0)).1.contains A.v = false
      · obtain ⟨g1, -⟩ := eff_no hc ha h3.1 h3.2
        rw [g1, if_pos (.inr h3)]
        exact ⟨rfl, fun _ _ => rfl⟩
      · obtain ⟨g1, -⟩ := eff_set (m := m) (A := A) hc ha ⟨hk.1, by omega⟩ (fun h => by
          cases hx : (m.getD c ([], 0)).1.contains A.v with
          | true => rfl
          | false => exact absurd ⟨h, hx⟩ h3)
        rw [g1, if_neg (fun h => h.elim h4 h3), aft_as A]
        exact ⟨getD_set_at _ _ _ _ hc, fun c' h' => getD_set_ne _ _ _ (Ne.symm h')⟩
theorem seqG_le {m : RB} {A : AskV} (h : (mAt m A).1.length ≤ 200) : seqG m A ≤ 202 := by
  unfold seqG grow
  split
  · omega
  · split
    · omega
    · have := aft_len A (mAt m A).1; omega
theorem Idle.lists {N : Int} {m : RB} {l most bound : Int} {L : LV} (h : Idle N m l most bound L) (c : Nat) : (m.getD c ([], 0)).1.length ≤ 200 := by
  obtain ⟨r, ks, hg⟩ := h.gi
  by_cases hc : c < m.length
  · have hx := hg.ch c (by rw [h.m]; exact hc)
    rw [h.m] at hx
    rcases hx with ⟨_, hx⟩ | ⟨_, _, _, hx, _⟩
    · rw [hx]; simp
    · exact hx
  · rw [List.getD_eq_getElem?_getD, List.getElem?_eq_none (by omega)]; simp
theorem LAt.ext2 {M : Nat → Prop} {q : Nat} {P : LB} {L : LV} {ad : Nat → Nat} {w w' : World} {own own' : Nat → Nat} (h : LAt q P L ad w own) (e : Ext M w w' own own') (hk : ∀ k, q + 1 ≤ k → k < q + 50 → ¬ M k) : LAt q P L ad w' own' := by
  obtain ⟨h1, ⟨ev, lw, h2⟩, h3, ⟨mv, h4, h5⟩, h6, h7, h8, ⟨vs, h9, h10⟩, h11⟩ := h
  have hc : ∀ g, g < w.heap.size → own g = q + 6 → w'.heap[g]? = w.heap[g]? ∧ own' g = q + 6 := fun g hg ho => ⟨e.same g hg (by rw [ho]; exact hk _ (by omega) (by omega)), by rw [e.col g hg]; exact ho⟩
  exact ⟨h1.ext e (hk _ (by omega) (by omega)), ⟨ev, lw, h2.ext e (hk _ (by omega) (by omega))⟩, h3.ext e (hk _ (by omega) (by omega)), ⟨mv, h4.ext e (hk _ (by omega) (by omega)), h5.carry e.size hc⟩, h6.ext e (hk _ (by omega) (by omega)), h7.ext e (hk _ (by omega) (by omega)), h8.ext e (hk _ (by omega) (by omega)),
    ⟨vs, h9.ext e (hk _ (by omega) (by omega)), fun t ht => (h10 t ht).carry e.size hc⟩, fun t O ht ho => (h11 t O ht ho).ext e (fun c h1 h2 => hk c (by omega) (by omega))⟩
theorem LAt.recol {q : Nat} {P : LB} {L : LV} {ad : Nat → Nat} {w : World} {own own' : Nat → Nat} (h : LAt q P L ad w own) (hop : ∀ i, L.op i = none) (hr : ∀ b, q + 1 ≤ own b → own b ≤ q + 6 → own' b = own b) : LAt q P L ad w own' := by
  obtain ⟨h1, ⟨ev, lw, h2⟩, h3, ⟨mv, h4, h5⟩, h6, h7, h8, ⟨vs, h9, h10⟩, h11⟩ := h
  have hb : ∀ {k b : Nat} {o : Obj}, Blk w own k b o → q + 1 ≤ k → k ≤ q + 6 → Blk w own' k b o := fun {k b o} hx hk1 hk2 => hx.recol (by rw [hr b (by rw [hx.col]; exact hk1) (by rw [hx.col]; exact hk2)]; exact hx.col)
  have hrow : ∀ {k : Nat} {E : TypeId} {sz : Nat} {v : Value} {n : Nat} {xs : List Value}, Row w own k E sz v n xs → q + 1 ≤ k → k ≤ q + 6 → Row w own' k E sz v n xs := fun {k E sz v n xs} hx hk1 hk2 => by
    obtain ⟨q1, q2 | ⟨g, cap, cur, hv, hbb, rr⟩⟩ := hx
    · exact ⟨q1, .inl q2⟩
    · exact ⟨q1, .inr ⟨g, cap, cur, hv, hb hbb hk1 hk2, rr⟩⟩
  have hc : ∀ g, g < w.heap.size → own g = q + 6 → w.heap[g]? = w.heap[g]? ∧ own' g = q + 6 := fun g _ ho => ⟨rfl, by rw [hr g (by omega) (by omega)]; exact ho⟩
  obtain ⟨ho, mb, cl, Ls, hI⟩ := h1
  refine ⟨⟨ho, mb, cl, Ls, hb hI.root (by omega) (by omega), hb hI.map (by omega) (by omega), fun e he => hb (hI.blk e he) (by omega) (by omega), hI.dis, hI.view⟩, ⟨ev, lw, hb h2.box (by omega) (by omega), hrow h2.ent (by omega) (by omega), hrow h2.lim (by omega) (by omega), h2.ok⟩, hb h3 (by omega) (by omega), ⟨mv, hb h4 (by omega) (by omega), h5.carry (Nat.le_refl _) hc⟩, hb h6 (by omega) (by omega), hb h7 (by omega) (by omega), hb h8 (by omega) (by omega), ⟨vs, hb h9 (by omega) (by omega), fun t ht => (h10 t ht).carry (Nat.le_refl _) hc⟩, fun t O _ ho => ?_⟩
  rw [hop t] at ho
  cases ho
/-- A world in which nobody is under way, somewhere in memory. -/
def Rest (q : Nat) (P : LB) (n : Nat) (m : RB) (w : World) (own : Nat → Nat) : Prop := ∃ L ad, LAt q P L ad w own ∧ Idle (1 + 500 * n) m (2 + 202 * n) 60000 64 L
theorem Rest.ext {M : Nat → Prop} {q : Nat} {P : LB} {n : Nat} {m : RB} {w w' : World} {own own' : Nat → Nat} (h : Rest q P n m w own) (e : Ext M w w' own own') (hk : ∀ k, q + 1 ≤ k → k < q + 50 → ¬ M k) : Rest q P n m w' own' := by
  obtain ⟨L, ad, h1, h2⟩ := h
  exact ⟨L, ad, h1.ext2 e hk, h2⟩
theorem Rest.recol {q : Nat} {P : LB} {n : Nat} {m : RB} {w : World} {own own' : Nat → Nat} (h : Rest q P n m w own) (hr : ∀ b, q + 1 ≤ own b → own b ≤ q + 6 → own' b = own b) : Rest q P n m w own' := by
  obtain ⟨L, ad, h1, h2⟩ := h
  exact ⟨L, ad, h1.recol h2.alone hr, h2⟩
/-- Two colourings are joined: of what was there, of what is new. -/
def joinC (w : World) (own own' : Nat → Nat) : Nat → Nat := fun b => if b < w.heap.size then own b else own' b
theorem joinC_ext {w w' : World} (h : Below w.heap.size w w') (own own' : Nat → Nat) : Ext (fun _ => False) w w' own (joinC w own own') := ⟨h.os, h.tape, h.output, h.size, fun b hb => if_pos hb, fun b hb _ => h.block b hb⟩
theorem joinC_new {w : World} {own own' : Nat → Nat} (h : ∀ b, b < w.heap.size → own' b = 0) (q : Nat) : ∀ b, q + 1 ≤ own' b → own' b ≤ q + 6 → joinC w own own' b = own' b := fun b h1 _ => by
  unfold joinC
  by_cases hb : b < w.heap.size
  · rw [h b hb] at h1; omega
  · rw [if_neg hb]
theorem Rest.mono {q : Nat} {P : LB} {n n' : Nat} {m : RB} {w : World} {own : Nat → Nat} (h : Rest q P n m w own) (hn : n ≤ n') : Rest q P n' m w own := by
  obtain ⟨L, ad, h1, h2⟩ := h
  exact ⟨L, ad, h1, h2.mono (by omega) (by omega)⟩
/-- A script is played in a world at rest. -/
theorem CoRest_any {q : Nat} {P : LB} {n : Nat} {m : RB} {w : World} {own : Nat → Nat} (h : Rest q P n m w own) (hn : n < 200) {t c : Nat} {kd tt ch vv : Int} {g k : Nat} (hS : Scr w own k g [⟨kd, tt, ch, vv⟩, ⟨5, t, 0, 0⟩]) (hk : ¬ PlayC q k) (ht : t < 9) (t1 : 1 ≤ t) (hot : tt = (t : Int)) (hkd : 1 ≤ kd ∧ kd ≤ 4) (hc : c < m.length) (ha : ch = (c : Int) + 1) :
    Calls Try.prog 18 #[.pointer (some ⟨P.W, 0, none⟩), .slice (some ⟨g, 0, none⟩) 2 2] w fun e w' => e = .returned (.bool true) ∧ ∃ own', Rest q P (n + 1) (seqM m ⟨kd, tt, ch, vv⟩) w' own' ∧ Ext (PlayC q) w w' own own' := by
  obtain ⟨L, ad, h1, h2⟩ := h
  have hl := h2.lists c
  have hl2 : (mAt m ⟨kd, tt, ch, vv⟩).1.length ≤ 200 := h2.lists _
  have hg := seqG_le hl2
  refine (CoSeq_any h1 h2 (o := ⟨kd, tt, ch, vv⟩) hS hk (by omega) ht t1 hot hkd hc ha (by decide) (by omega)).mono ?_
  rintro e w5 ⟨rfl, L5, ad5, own5, hL5, hI5, hE5⟩
  exact ⟨rfl, own5, ⟨L5, ad5, hL5, hI5.mono (by omega) (by omega)⟩, hE5⟩
theorem Rest.base {q : Nat} {P : LB} {n : Nat} {m : RB} {w : World} {own : Nat → Nat} (h : Rest q P n m w own) : w.cell? ⟨P.W, 2, none⟩ = some (.pointer (some ⟨P.b, 0, none⟩)) ∧ P.W < w.heap.size := by
  obtain ⟨L, ad, h1, h2⟩ := h
  obtain ⟨mv, hbx, -⟩ := h1.box
  exact ⟨hbx.cell 2, hbx.lt⟩
/-- What telling a chain leaves. -/
structure Told (s0 q : Nat) (P : LB) (n : Nat) (m : RB) (k : Nat) (w : World) (own : Nat → Nat) (v : Value) (xs : List Int) (w' : World) (own' : Nat → Nat) : Prop where
  val : VwC w' (fun g => own' g = k) v xs
  self : Rest q P n m w' own'
  other : ∀ q' P' n' m', q' + 50 ≤ q ∨ q + 50 ≤ q' → q' + 6 < k → Rest q' P' n' m' w own → Rest q' P' n' m' w' own'
  kept : ∀ k' v' ys, ¬ PlayC q k' → VwC w (fun g => own g = k') v' ys → VwC w' (fun g => own' g = k') v' ys
  old : Below s0 w w'
  zero : ∀ b, b < s0 → own' b = 0
theorem CoTell_any {s0 q : Nat} {P : LB} {n : Nat} {m : RB} {w : World} {own : Nat → Nat} (h : Rest q P n m w own) (hs0 : s0 ≤ w.heap.size) (hz : ∀ b, b < s0 → own b = 0) (hq : 1 ≤ q) (c : Nat) (hc : c < m.length) (k : Nat) (hk : q + 50 ≤ k) (p : List Int × Int) (hpp : m.getD c ([], 0) = p) :
    Calls Try.prog 15 #[.pointer (some ⟨P.b, 0, none⟩), .int .i64 ((c : Int) + 1)] w fun e w' => ∃ v own', e = .returned (.tuple #[v, .int .i64 p.2]) ∧ Told s0 q P n m k w own v p.1 w' own' := by
  subst hpp
  obtain ⟨L, ad, h1, h2⟩ := h
  have hsh := h2.shows h1.arena.1
  have hf := hsh.few
  have hcL : c < L.m.length := by rw [h2.m]; exact hc
  have hls := CoListC_any h1.arena h1.base (by rw [hsh.f]; decide) ((c : Int) + 1) (by omega) (by rw [hsh.chs]; omega) (by rw [hsh.chs]; omega) hsh.blk (hsh.at_ c hcL)
  have hp : L.m[c] = m.getD c ([], 0) := by
    rw [List.getD_eq_getElem?_getD, List.getElem?_eq_getElem hc]
    simp only [h2.m]
    rfl
  rw [hsh.ch c hcL, hp] at hls
  refine hls.mono ?_
  rintro e w6 ⟨v, own6, rfl, hv6, hA6, hE6⟩
  have hL6 := h1.relist hE6 hA6
  have hE : Ext (PlayC q) w w6 own own6 := hE6.mono (fun c h => by unfold PlayC; omega)
  refine ⟨v, fun b => if own6 b = q then k else own6 b, rfl, ?_, ⟨L, ad, hL6.recol h2.alone (fun b h1 h2 => if_neg (by omega)), h2⟩, fun q' P' n' m' hqq hq2 hr => ?_, fun k' v' ys hk' hvv => ?_, ?_, fun b hb => ?_⟩
  · exact hv6.carry (Nat.le_refl _) (fun g _ ho => ⟨rfl, if_pos ho⟩)
  · exact (hr.ext hE (fun k' h1 h2 h => by unfold PlayC at h; omega)).recol (fun b h1 h2 => if_neg (by omega))
  · refine hvv.carry hE.size (fun g hg ho => ⟨hE.same g hg (by rw [ho]; exact hk'), ?_⟩)
    have := hE.col g hg
    rw [ho] at this
    show (if own6 g = q then k else own6 g) = k'
    rw [if_neg (by rw [this]; unfold PlayC at hk'; omega)]
    exact this
  · exact ⟨hE.os, hE.tape, hE.output, hE.size, fun b hb => hE.same b (Nat.lt_of_lt_of_le hb hs0) (by rw [hz b hb]; unfold PlayC; omega)⟩
  · have := hE.col b (Nat.lt_of_lt_of_le hb hs0)
    rw [hz b hb] at this
    show (if own6 b = q then k else own6 b) = 0
    rw [if_neg (by omega)]
    exact this
structure ApInv (Pw Pu Pv : LB) (w : World) (own : Nat → Nat) (n1 n2 : Nat) (i k n : Nat) (m mu mv : RB) (wr : World) (own' : Nat → Nat) : Prop where
  hi : i ≤ n1
  hk : k ≤ n2
  hn : n ≤ 200
  rw_ : Rest 100 Pw n m wr own'
  ru : Rest 200 Pu n mu wr own'
  rv : Rest 300 Pv n mv wr own'
  ml : m.length = 2
  ul : mu.length = 1
  vl : mv.length = 1
  e1 : m.getD 0 ([], 0) = mu.getD 0 ([], 0)
  e2 : m.getD 1 ([], 0) = mv.getD 0 ([], 0)
  ext : Ext (fun c => c ≠ 0) w wr own own'
def ApL (Pw Pu Pv : LB) (w : World) (own : Nat → Nat) (n1 n2 : Nat) (g : Nat) (s10 s11 s12 : Value) (wr : World) : Prop :=
  ∃ i k n m mu mv own', s10 = .int .i64 (i : Nat) ∧ s11 = .int .i64 (k : Nat) ∧ s12 = .int .i64 (n : Nat) ∧ n + g = 200 ∧ ApInv Pw Pu Pv w own n1 n2 i k n m mu mv wr own'
theorem scr1 (wr : World) (own3 : Nat → Nat) (k : Nat) (kd tt ch vv : Int) (t : Nat) (o2 : Obj) (h2 : o2 = .cells #[.int .i64 kd, .int .i64 tt, .int .i64 ch, .int .i64 vv, .int .i64 5, .int .i64 (t : Int), .int .i64 0, .int .i64 0] 57 (0, 0)) :
    Ext (fun _ => False) wr (wr.alloc o2) own3 (PM.ow own3 wr.heap.size k) ∧ Scr (wr.alloc o2) (PM.ow own3 wr.heap.size k) k wr.heap.size [⟨kd, tt, ch, vv⟩, ⟨5, t, 0, 0⟩] := by
  subst h2
  exact ⟨(Ext.refl.ow k).alloc _, Blk.new (own := PM.ow own3 wr.heap.size k) (k := k) wr _ (ow_ge (Nat.le_refl _))⟩
theorem below_of {w w0 w3 wr : World} {o3 own' : Nat → Nat} (h0 : w.heap.size ≤ w0.heap.size) (hB : Below w.heap.size w w3) (hold : ∀ b, b < w0.heap.size → o3 b = 0) (e : Ext (fun c => c ≠ 0) w3 wr o3 own') : Below w.heap.size w wr :=
  ⟨e.os.trans hB.os, e.tape.trans hB.tape, e.output.trans hB.output, Nat.le_trans hB.size e.size, fun b hb => (e.same b (Nat.lt_of_lt_of_le hb hB.size) (by rw [hold b (Nat.lt_of_lt_of_le hb h0)]; exact fun h => h rfl)).trans (hB.block b hb)⟩
theorem ap_one {Pw Pu Pv : LB} {w wr wz : World} {own own' ownz : Nat → Nat} {n1 n2 i k n : Nat} {m mu mv : RB} {kd vv : Int} (h : ApInv Pw Pu Pv w own n1 n2 i k n m mu mv wr own') (hi : i < n1) (hn : n < 200) (hkd : 1 ≤ kd ∧ kd ≤ 4)
    (hw : Rest 100 Pw (n + 1) (seqM m ⟨kd, 1, 1, vv⟩) wz ownz) (hu : Rest 200 Pu (n + 1) (seqM mu ⟨kd, 1, 1, vv⟩) wz ownz) (hv : Rest 300 Pv n mv wz ownz) (he : Ext (fun c => c ≠ 0) w wz own ownz) : ApInv Pw Pu Pv w own n1 n2 (i + 1) k (n + 1) (seqM m ⟨kd, 1, 1, vv⟩) (seqM mu ⟨kd, 1, 1, vv⟩) mv wz ownz := by
  obtain ⟨a1, a2⟩ := seqM_at (m := m) (A := ⟨kd, 1, 1, vv⟩) (c := 0) (by rw [h.ml]; decide) rfl hkd
  obtain ⟨b1, b2⟩ := seqM_at (m := mu) (A := ⟨kd, 1, 1, vv⟩) (c := 0) (by rw [h.ul]; decide) rfl hkd
  exact ⟨hi, h.hk, hn, hw, hu, hv.mono (by omega), by rw [seqM_len]; exact h.ml, by rw [seqM_len]; exact h.ul, h.vl, by rw [a1, b1, h.e1], by rw [a2 1 (by decide), h.e2], he⟩
theorem ap_two {Pw Pu Pv : LB} {w wr wz : World} {own own' ownz : Nat → Nat} {n1 n2 i k n : Nat} {m mu mv : RB} {kd vv : Int} (h : ApInv Pw Pu Pv w own n1 n2 i k n m mu mv wr own') (hi : k < n2) (hn : n < 200) (hkd : 1 ≤ kd ∧ kd ≤ 4)
    (hw : Rest 100 Pw (n + 1) (seqM m ⟨kd, 2, 2, vv⟩) wz ownz) (hu : Rest 200 Pu n mu wz ownz) (hv : Rest 300 Pv (n + 1) (seqM mv ⟨kd, 2, 1, vv⟩) wz ownz) (he : Ext (fun c => c ≠ 0) w wz own ownz) : ApInv Pw Pu Pv w own n1 n2 i (k + 1) (n + 1) (seqM m ⟨kd, 2, 2, vv⟩) mu (seqM mv ⟨kd, 2, 1, vv⟩) wz ownz := by
  obtain ⟨a1, a2⟩ := seqM_at (m := m) (A := ⟨kd, 2, 2, vv⟩) (c := 1) (by rw [h.ml]; decide) rfl hkd
  obtain ⟨b1, b2⟩ := seqM_at (m := mv) (A := ⟨kd, 2, 1, vv⟩) (c := 0) (by rw [h.vl]; decide) rfl hkd
  exact ⟨h.hi, hi, hn, hw, hu.mono (by omega), hv, by rw [seqM_len]; exact h.ml, h.ul, by rw [seqM_len]; exact h.vl, by rw [a2 0 (by decide), h.e1], by rw [a1, b1, h.e2], he⟩
theorem ap_skip {Pw Pu Pv : LB} {w wr wz : World} {own own' ownz : Nat → Nat} {n1 n2 i k i' k' n : Nat} {m mu mv : RB} (h : ApInv Pw Pu Pv w own n1 n2 i k n m mu mv wr own') (hi : i' ≤ n1) (hk : k' ≤ n2) (hn : n < 200) (e : Ext (fun _ => False) wr wz own' ownz) : ApInv Pw Pu Pv w own n1 n2 i' k' (n + 1) m mu mv wz ownz :=
  ⟨hi, hk, hn, (h.rw_.ext e (fun _ _ _ h => h)).mono (by omega), (h.ru.ext e (fun _ _ _ h => h)).mono (by omega), (h.rv.ext e (fun _ _ _ h => h)).mono (by omega), h.ml, h.ul, h.vl, h.e1, h.e2, h.ext.trans (e.mono (fun _ h => h.elim))⟩
set_option maxHeartbeats 8000000 in
theorem chainApart_walk (w : World) (v : Value) (n1 b off : Nat) (f : Nat → Nat → Int) (hp : Recs Try.prog 32 4 w v n1 b off f) (u : Value) (n2 b2 off2 : Nat) (f2 : Nat → Nat → Int) (hq : Recs Try.prog 32 4 w u n2 b2 off2 f2)
    (x : Value) (n3 b3 off3 : Nat) (f3 : Nat → Nat → Int) (hr : Recs Try.prog 54 1 w x n3 b3 off3 f3) :
    Calls Try.prog 5 #[v, u, x] w fun e w' => e = .returned (.bool true) ∧ Below w.heap.size w w' := by
  have hlen := hp.len
  have hidx := hp.idx
  have hsz := hp.size
  have hlen2 := hq.len
  have hidx2 := hq.idx
  have hsz2 := hq.size
  have hlen3 := hr.len
  have hidx3 := hr.idx
  have hsz3 := hr.size
  go_enter Try.func5, Try.ntmps5
  go_wp2_with fail
  refine (alive_any w).mono ?_
  rintro e w0 ⟨rfl, hB0⟩
  have HB0 := Lib.hid hB0
  clear hB0
  go_wp2_with fail
  refine (CoMade_any w0 100 60000 64 2 (by decide) (by decide) (by decide)).mono ?_
  rintro e w1 ⟨Pw, own1, rfl, hB1, hc1, hL1⟩
  have HB1 := Lib.hid (HB0.out.trans (hB1.mono HB0.out.size))
  have HE1 := Lib.hid (joinC_ext hB1 (fun _ => 0) own1)
  have HR1 : Hid (Rest 100 Pw 0 (List.replicate 2 ([], 0)) w1 (joinC w0 (fun _ => 0) own1)) := Lib.hid (Rest.recol ⟨_, _, hL1, (Idle.fresh 60000 64 2 (by decide) (by decide) (by decide) (by decide) (by decide) (by decide)).mono (by decide) (by decide)⟩ (joinC_new hc1 100))
  generalize joinC w0 (fun _ => 0) own1 = o1 at *
  clear hB1 hc1 hL1
  go_wp2_with fail
  refine (CoMade_any w1 200 60000 64 1 (by decide) (by decide) (by decide)).mono ?_
  rintro e w2 ⟨Pu, own2, rfl, hB2, hc2, hL2⟩
  have HB2 := Lib.hid (HB1.out.trans (hB2.mono HB1.out.size))
  have HE2 := Lib.hid (joinC_ext hB2 o1 own2)
  have HR2 : Hid (Rest 200 Pu 0 (List.replicate 1 ([], 0)) w2 (joinC w1 o1 own2)) := Lib.hid (Rest.recol ⟨_, _, hL2, (Idle.fresh 60000 64 1 (by decide) (by decide) (by decide) (by decide) (by decide) (by decide)).mono (by decide) (by decide)⟩ (joinC_new hc2 200))
  have HR1b := Lib.hid (HR1.out.ext HE2.out (fun _ _ _ h => h))
  have HEb := Lib.hid (HE1.out.trans HE2.out)
  generalize joinC w1 o1 own2 = o2 at *
  clear hB2 hc2 hL2 HR1 HE1 HE2 HB1
  go_wp2_with fail
  refine (CoMade_any w2 300 60000 64 1 (by decide) (by decide) (by decide)).mono ?_
  rintro e w3 ⟨Pv, own3, rfl, hB3, hc3, hL3⟩
  have HB3 := Lib.hid (HB2.out.trans (hB3.mono HB2.out.size))
  have HE3 := Lib.hid (joinC_ext hB3 o2 own3)
  have HR3 : Hid (Rest 300 Pv 0 (List.replicate 1 ([], 0)) w3 (joinC w2 o2 own3)) := Lib.hid (Rest.recol ⟨_, _, hL3, (Idle.fresh 60000 64 1 (by decide) (by decide) (by decide) (by decide) (by decide) (by decide)).mono (by decide) (by decide)⟩ (joinC_new hc3 300))
  have HR2b := Lib.hid (HR2.out.ext HE3.out (fun _ _ _ h => h))
  have HR1c := Lib.hid (HR1b.out.ext HE3.out (fun _ _ _ h => h))
  have HEc := Lib.hid (HEb.out.trans HE3.out)
  generalize joinC w2 o2 own3 = o3 at *
  clear hB3 hc3 hL3 HR2 HR1b HEb HE3 HB2
  have HINV : Hid (ApInv Pw Pu Pv w3 o3 n1 n2 0 0 0 (List.replicate 2 ([], 0)) (List.replicate 1 ([], 0)) (List.replicate 1 ([], 0)) w3 o3) := Lib.hid ⟨by omega, by omega, by omega, HR1c.out, HR2b.out, HR3.out, rfl, rfl, rfl, rfl, rfl, Ext.refl⟩
  have HOLD := Lib.hid (HEc.out.col)
  go_wp2_with fail
  go_loopg [10, 11, 12] 200 (fun g s10 s11 s12 wr => ApL Pw Pu Pv w3 o3 n1 n2 g s10 s11 s12 wr)
  case atStart => exact ⟨0, 0, 0, _, _, _, o3, rfl, rfl, rfl, rfl, HINV.out⟩
  case round =>
    obtain ⟨i, k, n, m, mu, mv, own', rfl, rfl, rfl, hng, hinv⟩ := hrel
    have HI := Lib.hid hinv
    have hi1 := hinv.hi
    have hk2 := hinv.hk
    have HBW := Lib.hid (below_of HB0.out.size HB3.out HOLD.out hinv.ext)
    clear hinv
    by_cases hloop : (i < n1 ∨ k < n2) ∧ n < 200
    · obtain ⟨hor, hn200⟩ := hloop
      have hn2i : (n : Int) < 200 := by omega
      go_upto_region 8 with fail
      go_cut [52] (fun s wx => s = .bool true ∧ wx = wr)
      case first =>
        by_cases hin : (i : Int) < (n1 : Int)
        · go_wp2_with fail
          go_meet
          exact ⟨rfl, rfl⟩
        · have hkn : (k : Int) < (n2 : Int) := by omega
          go_wp2_with fail
          go_meet
          exact ⟨rfl, rfl⟩
      case rest =>
        obtain ⟨rfl, hwc⟩ := hcut
        have hwc := hwc.symm
        subst hwc
        go_upto_region 10 with fail
        go_cut [13] (fun s wx => (∃ fb, s = .bool fb) ∧ wx = wr)
        case first =>
          by_cases h3 : n3 = 0
          · subst h3
            go_wp2_with fail
            go_meet
            exact ⟨⟨_, rfl⟩, rfl⟩
          · have h3b : (((n3 : Nat) : Int) == 0) = false := by rw [beq_eq_false_iff_ne]; omega
            have hql : n % n3 < n3 := Nat.mod_lt _ (by omega)
            have hq1 : ((n : Int) % (n3 : Int)) = ((n % n3 : Nat) : Int) := (Int.natCast_emod n n3).symm
            have hq2 : Int.tmod (n : Int) (n3 : Int) = ((n % n3 : Nat) : Int) := by rw [Int.tmod_eq_emod_of_nonneg (by omega)]; exact hq1
            have hx3 := hidx3 wr (n % n3) hql
            have hc3 := hr.at_ HBW.out hql (show 0 < 1 by omega)
            rw [Nat.mul_one, Nat.add_zero] at hc3
            rw [Nat.mul_one] at hx3
            obtain ⟨tt, htt, hbit⟩ := and_le (f3 (n % n3) 0) 1 (by decide)
            have hbit1 : bits .and .i64 (f3 (n % n3) 0) 1 = (tt : Int) := hbit
            have hbl := hr.lt (by omega)
            generalize n % n3 = qq at *
            generalize f3 qq 0 = pk at *
            clear hbit
            go_wp2_with fail
            go_meet
            exact ⟨⟨_, rfl⟩, rfl⟩
        case rest =>
          obtain ⟨⟨fb, rfl⟩, hwc⟩ := hcut
          have hwc := hwc.symm
          subst hwc
          go_upto_region 11 with fail
          obtain ⟨ab, hab⟩ : ∃ ab, (fb && decide (i < n1)) = ab := ⟨_, rfl⟩
          go_cut [75] (fun s wx => s = .bool ab ∧ wx = wr)
          case first =>
            cases fb
            · go_wp2_with fail
              go_meet
              exact ⟨by rw [← hab]; rfl, rfl⟩
            · go_wp2_with fail
              go_meet
              exact ⟨by rw [← hab], rfl⟩
          case rest =>
            obtain ⟨rfl, hwc⟩ := hcut
            have hwc := hwc.symm
            subst hwc
            rcases Bool.eq_false_or_eq_true ab with hab1 | hab1
            · rw [hab1] at hab ⊢
              have hin : i < n1 := by
                cases fb
                · exact absurd hab (by simp)
                · exact of_decide_eq_true hab
              clear hab hab1
              have hin2 : (i : Int) < (n1 : Int) := by omega
              have hx1 := hidx wr i hin
              have d0 := hp.at_ HBW.out hin (show 0 < 4 by decide)
              have d1 := hp.at_ HBW.out hin (show 1 < 4 by decide)
              have d2 := hp.at_ HBW.out hin (show 2 < 4 by decide)
              have d3 := hp.at_ HBW.out hin (show 3 < 4 by decide)
              rw [Nat.add_zero] at d0
              generalize f i 0 = kd at *
              generalize f i 1 = q1 at *
              generalize f i 2 = q2 at *
              generalize f i 3 = vv at *
              have HE := Lib.hid (HI.out.ext)
              by_cases hkd : 1 ≤ kd ∧ kd ≤ 3
              · obtain ⟨hkd1, hkd3⟩ := hkd
                go_wp2_with fail
                obtain ⟨hX4, hS4⟩ := scr2 wr own' 470 kd 1 1 vv 1 (.cells #[.int .i64 kd, .int .i64 1, .int .i64 1, .int .i64 vv] 57) _ rfl
                have hb4 : Blk ((wr.alloc (.cells #[.int .i64 kd, .int .i64 1, .int .i64 1, .int .i64 vv] 57)).alloc (.cells #[.int .i64 kd, .int .i64 1, .int .i64 1, .int .i64 vv, .int .i64 5, .int .i64 1, .int .i64 0, .int .i64 0] 57)) (PM.ow own' wr.heap.size 470) 470 wr.heap.size (.cells #[.int .i64 kd, .int .i64 1, .int .i64 1, .int .i64 vv] 57 (0, 0)) := (Blk.new (own := PM.ow own' wr.heap.size 470) wr _ (ow_ge (Nat.le_refl _))).alloc _
                refine (CoRest_any (HI.out.rw_.ext hX4 (fun _ _ _ h => h)) hn200 (t := 1) (c := 0) hS4 (by unfold PlayC; omega) (by decide) (by decide) rfl ⟨hkd1, by omega⟩ (by rw [HI.out.ml]; decide) rfl).mono ?_
                rintro e w5 ⟨rfl, own5, hR5, hE5⟩
                have HR5 := Lib.hid hR5
                have HX5 := Lib.hid ((hX4.mono (M' := PlayC 100) (fun _ h => h.elim)).trans hE5)
                have HB5 := Lib.hid (hb4.ext hE5 (by unfold PlayC; omega))
                clear hX4 hS4 hb4 hR5 hE5 d0 d1 d2 d3 hx1
                generalize wr.heap.size = nb at *
                have c0 : w5.cell? ⟨nb, 0, none⟩ = some (.int .i64 kd) := HB5.out.cell 0
                have c1 : w5.cell? ⟨nb, 1, none⟩ = some (.int .i64 1) := HB5.out.cell 1
                have c2 : w5.cell? ⟨nb, 2, none⟩ = some (.int .i64 1) := HB5.out.cell 2
                have c3 : w5.cell? ⟨nb, 3, none⟩ = some (.int .i64 vv) := HB5.out.cell 3
                have cl := HB5.out.lt
                go_wp2_with fail
                obtain ⟨hX6, hS6⟩ := scr1 w5 own5 470 kd 1 1 vv 1 _ rfl
                refine (CoRest_any ((HI.out.ru.ext HX5.out (fun k h1 h2 h => by unfold PlayC at h; omega)).ext hX6 (fun _ _ _ h => h)) hn200 (t := 1) (c := 0) hS6 (by unfold PlayC; omega) (by decide) (by decide) rfl ⟨hkd1, by omega⟩ (by rw [HI.out.ul]; decide) rfl).mono ?_
                rintro e w7 ⟨rfl, own7, hR7, hE7⟩
                have hX7 := (hX6.mono (M' := PlayC 200) (fun _ h => h.elim)).trans hE7
                have HNEW := Lib.hid (ap_one HI.out hin hn200 (kd := kd) (vv := vv) ⟨hkd1, by omega⟩ (HR5.out.ext hX7 (fun k h1 h2 h => by unfold PlayC at h; omega)) hR7 ((HI.out.rv.ext HX5.out (fun k h1 h2 h => by unfold PlayC at h; omega)).ext hX7 (fun k h1 h2 h => by unfold PlayC at h; omega))
                  (HE.out.trans ((HX5.out.mono (fun c h => by unfold PlayC at h; omega)).trans (hX7.mono (fun c h => by unfold PlayC at h; omega)))))
                clear hX6 hS6 hR7 hE7 hX7 HR5 HX5 HB5 c0 c1 c2 c3 cl
                go_wp2_with fail
                go_roundg (200 - (n + 1))
                case measure => omega
                case rel => exact ⟨i + 1, k, n + 1, _, _, _, own7, by go_num, rfl, by go_num, by omega, HNEW.out⟩
              · have hXz := (Ext.refl (M := fun _ => False) (w := wr) (own := own')).ow 470 |>.alloc (.cells #[.int .i64 kd, .int .i64 1, .int .i64 1, .int .i64 vv] 57)
                have HNEW := Lib.hid (ap_skip (i' := i + 1) HI.out hin hk2 hn200 hXz)
                clear hXz
                by_cases hk1 : 1 ≤ kd
                · have hk3 : ¬ (kd ≤ 3) := by omega
                  clear hkd
                  go_wp2_with fail
                  go_roundg (200 - (n + 1))
                  case measure => omega
                  case rel => exact ⟨i + 1, k, n + 1, m, mu, mv, _, by go_num, rfl, by go_num, by omega, HNEW.out⟩
                · clear hkd
                  go_wp2_with fail
                  go_roundg (200 - (n + 1))
                  case measure => omega
                  case rel => exact ⟨i + 1, k, n + 1, m, mu, mv, _, by go_num, rfl, by go_num, by omega, HNEW.out⟩
            · rw [hab1] at hab ⊢
              clear hab hab1
              have HE := Lib.hid (HI.out.ext)
              by_cases hin : k < n2
              · have hin2 : (k : Int) < (n2 : Int) := by omega
                have hx1 := hidx2 wr k hin
                have d0 := hq.at_ HBW.out hin (show 0 < 4 by decide)
                have d1 := hq.at_ HBW.out hin (show 1 < 4 by decide)
                have d2 := hq.at_ HBW.out hin (show 2 < 4 by decide)
                have d3 := hq.at_ HBW.out hin (show 3 < 4 by decide)
                rw [Nat.add_zero] at d0
                generalize f2 k 0 = kd at *
                generalize f2 k 1 = q1 at *
                generalize f2 k 2 = q2 at *
                generalize f2 k 3 = vv at *
                by_cases hkd : 1 ≤ kd ∧ kd ≤ 3
                · obtain ⟨hkd1, hkd3⟩ := hkd
                  go_wp2_with fail
                  obtain ⟨hX4, hS4⟩ := scr2 wr own' 470 kd 2 1 vv 2 (.cells #[.int .i64 kd, .int .i64 2, .int .i64 1, .int .i64 vv] 57) _ rfl
                  have hb4 : Blk ((wr.alloc (.cells #[.int .i64 kd, .int .i64 2, .int .i64 1, .int .i64 vv] 57)).alloc (.cells #[.int .i64 kd, .int .i64 2, .int .i64 1, .int .i64 vv, .int .i64 5, .int .i64 2, .int .i64 0, .int .i64 0] 57)) (PM.ow own' wr.heap.size 470) 470 wr.heap.size (.cells #[.int .i64 kd, .int .i64 2, .int .i64 1, .int .i64 vv] 57 (0, 0)) := (Blk.new (own := PM.ow own' wr.heap.size 470) wr _ (ow_ge (Nat.le_refl _))).alloc _
                  refine (CoRest_any (HI.out.rv.ext hX4 (fun _ _ _ h => h)) hn200 (t := 2) (c := 0) hS4 (by unfold PlayC; omega) (by decide) (by decide) rfl ⟨hkd1, by omega⟩ (by rw [HI.out.vl]; decide) rfl).mono ?_
                  rintro e w5 ⟨rfl, own5, hR5, hE5⟩
                  have HR5 := Lib.hid hR5
                  have HX5 := Lib.hid ((hX4.mono (M' := PlayC 300) (fun _ h => h.elim)).trans hE5)
                  have HB5 := Lib.hid (hb4.ext hE5 (by unfold PlayC; omega))
                  clear hX4 hS4 hb4 hR5 hE5 d0 d1 d2 d3 hx1
                  generalize wr.heap.size = nb at *
                  have c0 : w5.cell? ⟨nb, 0, none⟩ = some (.int .i64 kd) := HB5.out.cell 0
                  have c1 : w5.cell? ⟨nb, 1, none⟩ = some (.int .i64 2) := HB5.out.cell 1
                  have c2 : w5.cell? ⟨nb, 2, none⟩ = some (.int .i64 1) := HB5.out.cell 2
                  have c3 : w5.cell? ⟨nb, 3, none⟩ = some (.int .i64 vv) := HB5.out.cell 3
                  have cf := HB5.out.free 2
                  have cl := HB5.out.lt
                  go_upto_region 26 with fail
                  have HS6 := Lib.hid ((Ext.refl (M := fun c => c = 470) (w := w5) (own := own5)).setCell (a := ⟨nb, 2, none⟩) (fun _ => HB5.out.col) (.int .i64 2))
                  have HB6 := Lib.hid (Blk.setCell HB5.out 2 (.int .i64 2))
                  clear c0 c1 c2 c3 cf cl
                  generalize w5.setCell ⟨nb, 2, none⟩ (.int .i64 2) = w6 at *
                  have c0 : w6.cell? ⟨nb, 0, none⟩ = some (.int .i64 kd) := HB6.out.cell 0
                  have c1 : w6.cell? ⟨nb, 1, none⟩ = some (.int .i64 2) := HB6.out.cell 1
                  have c2 : w6.cell? ⟨nb, 2, none⟩ = some (.int .i64 2) := HB6.out.cell 2
                  have c3 : w6.cell? ⟨nb, 3, none⟩ = some (.int .i64 vv) := HB6.out.cell 3
                  have cl := HB6.out.lt
                  go_wp2_with fail
                  obtain ⟨hX7, hS7⟩ := scr1 w6 own5 470 kd 2 2 vv 2 _ rfl
                  have hX6 := HS6.out.trans (hX7.mono (M' := fun c => c = 470) (fun _ h => h.elim))
                  refine (CoRest_any ((HI.out.rw_.ext HX5.out (fun k h1 h2 h => by unfold PlayC at h; omega)).ext hX6 (fun k h1 h2 h => by omega)) hn200 (t := 2) (c := 1) hS7 (by unfold PlayC; omega) (by decide) (by decide) rfl ⟨hkd1, by omega⟩ (by rw [HI.out.ml]; decide) rfl).mono ?_
                  rintro e w7 ⟨rfl, own7, hR7, hE7⟩
                  have hX8 := (hX6.mono (M' := fun c => c = 470 ∨ PlayC 100 c) (fun _ h => .inl h)).trans (hE7.mono (fun _ h => .inr h))
                  have HNEW := Lib.hid (ap_two HI.out hin hn200 (kd := kd) (vv := vv) ⟨hkd1, by omega⟩ hR7 ((HI.out.ru.ext HX5.out (fun k h1 h2 h => by unfold PlayC at h; omega)).ext hX8 (fun k h1 h2 h => by unfold PlayC at h; omega)) (HR5.out.ext hX8 (fun k h1 h2 h => by unfold PlayC at h; omega))
                    (HE.out.trans ((HX5.out.mono (fun c h => by unfold PlayC at h; omega)).trans (hX8.mono (fun c h => by unfold PlayC at h; omega)))))
                  clear hX6 hX7 hS7 hR7 hE7 hX8 HR5 HX5 HB5 HB6 HS6 c0 c1 c2 c3 cl
                  go_wp2_with fail
                  go_roundg (200 - (n + 1))
                  case measure => omega
                  case rel => exact ⟨i, k + 1, n + 1, _, _, _, own7, rfl, by go_num, by go_num, by omega, HNEW.out⟩
                · have hXz := (Ext.refl (M := fun _ => False) (w := wr) (own := own')).ow 470 |>.alloc (.cells #[.int .i64 kd, .int .i64 2, .int .i64 2, .int .i64 vv] 57)
                  have HNEW := Lib.hid (ap_skip (k' := k + 1) HI.out hi1 hin hn200 hXz)
                  clear hXz
                  by_cases hk1 : 1 ≤ kd
                  · have hk3 : ¬ (kd ≤ 3) := by omega
                    clear hkd
                    go_wp2_with fail
                    go_roundg (200 - (n + 1))
                    case measure => omega
                    case rel => exact ⟨i, k + 1, n + 1, m, mu, mv, _, rfl, by go_num, by go_num, by omega, HNEW.out⟩
                  · clear hkd
                    go_wp2_with fail
                    go_roundg (200 - (n + 1))
                    case measure => omega
                    case rel => exact ⟨i, k + 1, n + 1, m, mu, mv, _, rfl, by go_num, by go_num, by omega, HNEW.out⟩
              · have hin2 : ¬ ((k : Int) < (n2 : Int)) := by omega
                have HNEW := Lib.hid (ap_skip HI.out hi1 hk2 hn200 Ext.refl)
                go_wp2_with fail
                go_roundg (200 - (n + 1))
                case measure => omega
                case rel => exact ⟨i, k, n + 1, m, mu, mv, _, rfl, rfl, by go_num, by omega, HNEW.out⟩
    · by_cases hin : (i : Int) < (n1 : Int)
      · have hn2i : ¬ ((n : Int) < 200) := by omega
        go_wp2_with fail
        go_ret
        exact ⟨rfl, HBW.out⟩
      · by_cases hkn : (k : Int) < (n2 : Int)
        · have hn2i : ¬ ((n : Int) < 200) := by omega
          go_wp2_with fail
          go_ret
          exact ⟨rfl, HBW.out⟩
        · have hz : ∀ b, b < w.heap.size → own' b = 0 := fun b hb => by
            rw [HI.out.ext.col b (Nat.lt_of_lt_of_le hb HB3.out.size)]
            exact HOLD.out b (Nat.lt_of_lt_of_le hb HB0.out.size)
          obtain ⟨p1, hp1⟩ : ∃ p1, m.getD 0 ([], 0) = p1 := ⟨_, rfl⟩
          obtain ⟨p2, hp2⟩ : ∃ p2, m.getD 1 ([], 0) = p2 := ⟨_, rfl⟩
          have HP1 := Lib.hid hp1
          have HP2 := Lib.hid hp2
          clear hp1 hp2
          have hT1 := CoTell_any HI.out.rw_ HBW.out.size hz (by decide) 0 (by rw [HI.out.ml]; decide) 471 (by decide) p1 HP1.out
          have HT1 := Lib.hid hT1
          have HW := Lib.hid HI.out.rw_
          have HU := Lib.hid HI.out.ru
          have HV := Lib.hid HI.out.rv
          have HE1 := Lib.hid HI.out.e1
          have HE2 := Lib.hid HI.out.e2
          have HML := Lib.hid HI.out.ml
          have HUL := Lib.hid HI.out.ul
          have HVL := Lib.hid HI.out.vl
          clear hz hT1 HI hi1 hk2
          obtain ⟨x2, xl⟩ := HW.out.base
          go_wp2_with fail
          refine HT1.out.mono ?_
          rintro e w4 ⟨va, own4, rfl, hT⟩
          obtain ⟨av, ac, rfl⟩ := hT.val.shape
          have HA := Lib.hid hT.val
          have HW4 := Lib.hid hT.self
          have HU4 := Lib.hid (hT.other 200 Pu n mu (by decide) (by decide) HU.out)
          have HV4 := Lib.hid (hT.other 300 Pv n mv (by decide) (by decide) HV.out)
          have HB4 := Lib.hid (HBW.out.trans hT.old)
          have hT2 := CoTell_any HU4.out HB4.out.size hT.zero (by decide) 0 (by rw [HUL.out]; decide) 472 (by decide) p1 (HE1.out.symm.trans HP1.out)
          have HT2 := Lib.hid hT2
          clear hT hT2 HT1 HW HU HV HBW x2 xl
          obtain ⟨x2, xl⟩ := HU4.out.base
          go_wp2_with fail
          refine HT2.out.mono ?_
          rintro e w5 ⟨vb, own5, rfl, hT⟩
          obtain ⟨bv, bc, rfl⟩ := hT.val.shape
          have HA5 := Lib.hid (hT.kept _ _ _ (by unfold PlayC; omega) HA.out)
          have HBv := Lib.hid hT.val
          have HW5 := Lib.hid (hT.other 100 Pw n m (by decide) (by decide) HW4.out)
          have HV5 := Lib.hid (hT.other 300 Pv n mv (by decide) (by decide) HV4.out)
          have HB5 := Lib.hid (HB4.out.trans hT.old)
          have hT2 := CoTell_any HW5.out HB5.out.size hT.zero (by decide) 1 (by rw [HML.out]; decide) 473 (by decide) p2 HP2.out
          have HT3 := Lib.hid hT2
          clear hT hT2 HT2 HW4 HU4 HV4 HB4 HA x2 xl
          obtain ⟨x2, xl⟩ := HW5.out.base
          go_wp2_with fail
          refine HT3.out.mono ?_
          rintro e w6 ⟨vc, own6, rfl, hT⟩
          obtain ⟨cv, cc, rfl⟩ := hT.val.shape
          have HA6 := Lib.hid (hT.kept _ _ _ (by unfold PlayC; omega) HA5.out)
          have HB6v := Lib.hid (hT.kept _ _ _ (by unfold PlayC; omega) HBv.out)
          have HC6 := Lib.hid hT.val
          have HV6 := Lib.hid (hT.other 300 Pv n mv (by decide) (by decide) HV5.out)
          have HB6 := Lib.hid (HB5.out.trans hT.old)
          have hT2 := CoTell_any HV6.out HB6.out.size hT.zero (by decide) 0 (by rw [HVL.out]; decide) 474 (by decide) p2 (HE2.out.symm.trans HP2.out)
          have HT4 := Lib.hid hT2
          clear hT hT2 HT3 HW5 HV5 HB5 HA5 HBv x2 xl
          obtain ⟨x2, xl⟩ := HV6.out.base
          go_wp2_with fail
          refine HT4.out.mono ?_
          rintro e w7 ⟨vd, own7, rfl, hT⟩
          obtain ⟨dv, dc, rfl⟩ := hT.val.shape
          have HA7 := Lib.hid (hT.kept _ _ _ (by unfold PlayC; omega) HA6.out).vw
          have HB7v := Lib.hid (hT.kept _ _ _ (by unfold PlayC; omega) HB6v.out).vw
          have HC7 := Lib.hid (hT.kept _ _ _ (by unfold PlayC; omega) HC6.out).vw
          have HD7 := Lib.hid hT.val.vw
          have HB7 := Lib.hid (HB6.out.trans hT.old)
          clear hT HT4 HV6 HB6 HA6 HB6v HC6 x2 xl
          have hs1 : (p1.2 == p1.2) = true := by simp
          have hs2 : (p2.2 == p2.2) = true := by simp
          have HS1 := Lib.hid (SameLongs_any HA7.out HB7v.out)
          rw [show decide (p1.1 = p1.1) = true from by simp] at HS1
          have HS2 := Lib.hid (fun w8 (h : Below w7.heap.size w7 w8) => SameLongs_any (HC7.out.below h) (HD7.out.below h))
          rw [show decide (p2.1 = p2.1) = true from by simp] at HS2
          clear HP1 HP2 HE1 HE2 HML HUL HVL HA7 HB7v HC7 HD7
          generalize p1.2 = st1 at *
          generalize p2.2 = st2 at *
          generalize p1.1 = ls1 at *
          generalize p2.1 = ls2 at *
          go_wp2_with fail
          refine HS1.out.mono ?_
          rintro e w8 ⟨rfl, hB8⟩
          have HB8 := Lib.hid hB8
          clear hB8
          go_wp2_with fail
          refine (HS2.out _ HB8.out).mono ?_
          rintro e w9 ⟨rfl, hB9⟩
          have HF := Lib.hid (HB7.out.trans ((HB8.out.trans (hB9.mono HB8.out.size)).mono HB7.out.size))
          clear hB9
          go_wp2_with fail
          go_ret
          exact ⟨rfl, HF.out⟩
end Go.Proofs.Ytefhngbeodnldaa
