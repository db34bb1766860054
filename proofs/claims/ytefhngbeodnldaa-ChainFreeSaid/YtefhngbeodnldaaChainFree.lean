/- ChainFree: of operations under way one is over within the promised steps: the walk. -/
import Derived.Test.YtefhngbeodnldaaChainApart
import Derived.Test.YtefhngbeodnldaaChainPhi
set_option maxRecDepth 20000
set_option linter.unusedVariables false
set_option linter.unusedSimpArgs false
namespace Go.Proofs.Ytefhngbeodnldaa
open Go.RowKit Go.PM
def q1 (n : Nat) : Nat := n * (n + 1)
def Bq (n : Nat) : Nat := q1 n * (2 * (28 + n) + 16)
theorem q1_le {n : Nat} (h : n ≤ 8) : q1 n ≤ 72 := by
  match n, h with
  | 0, _ => decide
  | 1, _ => decide
  | 2, _ => decide
  | 3, _ => decide
  | 4, _ => decide
  | 5, _ => decide
  | 6, _ => decide
  | 7, _ => decide
  | 8, _ => decide
theorem Bq_le {n : Nat} (h : n ≤ 8) : Bq n ≤ 6336 := by
  match n, h with
  | 0, _ => decide
  | 1, _ => decide
  | 2, _ => decide
  | 3, _ => decide
  | 4, _ => decide
  | 5, _ => decide
  | 6, _ => decide
  | 7, _ => decide
  | 8, _ => decide
theorem q1_cast (n : Nat) : (n : Int) * ((n : Int) + 1) = (q1 n : Nat) := by unfold q1; push_cast; rfl
theorem Bq_cast (n : Nat) : ((q1 n : Nat) : Int) * (2 * (28 + (n : Int)) + 16) = (Bq n : Nat) := by unfold Bq; push_cast; rfl
def FF : Nat → Nat
  | 0 => 0
  | n + 1 => FF n + Bq n + 2
theorem FF_le {n : Nat} (h : n ≤ 8) : FF n ≤ 20000 := by
  match n, h with
  | 0, _ => decide
  | 1, _ => decide
  | 2, _ => decide
  | 3, _ => decide
  | 4, _ => decide
  | 5, _ => decide
  | 6, _ => decide
  | 7, _ => decide
  | 8, _ => decide
/-- While operations are begun. -/
def P2 (i n : Nat) (L : LV) : Prop :=
  ∃ (N : Int) (r : Int → Role) (ks : List Int), N ≤ 20000 ∧ GI 28 N r ks L ∧ (∀ t, i < t → L.op t = none) ∧ sum9 (liv L) = n ∧ n ≤ i ∧ L.m.length = 2 ∧ ∀ c, (L.m.getD c ([], 0)).1.length ≤ 20
theorem P2.mono {i i' n : Nat} {L : LV} (h : P2 i n L) (hi : i ≤ i') : P2 i' n L := by
  obtain ⟨N, r, ks, h1, h2, h3, h4, h5, h6, h7⟩ := h
  exact ⟨N, r, ks, h1, h2, fun t ht => h3 t (by omega), h4, by omega, h6, h7⟩
theorem P2.start {i n : Nat} {L : LV} (h : P2 i n L) (hi : i < 8) {o : AskV} (hot : o.t = ((i + 1 : Nat) : Int)) (hk : 1 ≤ o.kind ∧ o.kind ≤ 4) : P2 (i + 1) (n + 1) (L.start (i + 1) o) := by
  obtain ⟨N, r, ks, h1, h2, h3, h4, h5, h6, h7⟩ := h
  have hop : L.op (i + 1) = none := h3 _ (by omega)
  refine ⟨N, r, ks, h1, h2.start (by omega) (by omega) hot hk hop, fun t ht => ?_, ?_, by omega, h6, h7⟩
  · show upd L.op (i + 1) (some o.op) t = none
    rw [upd_ne _ _ (by omega)]
    exact h3 t (by omega)
  · have e1 : liv L (i + 1) = 0 := by unfold liv; rw [hop]
    have e2 : liv (L.start (i + 1) o) (i + 1) = 1 := liv_at (O := o.op) (upd_same _ _ _)
    have e3 : ∀ j, j ≠ i + 1 → liv (L.start (i + 1) o) j = liv L j := fun j hj => by
      unfold liv
      rw [show (L.start (i + 1) o).op j = L.op j from upd_ne _ _ hj]
    have a1 : sum9 (liv L) + 1 ≤ sum9 (liv (L.start (i + 1) o)) + 0 := sum9_at (t := i + 1) (by omega) 1 0 (fun j hj => by rw [e3 j hj]; exact Nat.le_refl _) (by rw [e1, e2]; exact Nat.le_refl _)
    have a2 : sum9 (liv (L.start (i + 1) o)) + 0 ≤ sum9 (liv L) + 1 := sum9_at (t := i + 1) (by omega) 0 1 (fun j hj => by rw [e3 j hj]; exact Nat.le_refl _) (by rw [e1, e2]; exact Nat.le_refl _)
    omega
theorem P2.play {i n : Nat} (hi : i < 8) {o : AskV} (hot : o.t = ((i + 1 : Nat) : Int)) (hk : 1 ≤ o.kind ∧ o.kind ≤ 4) :
    PlayOk [o] (fun j L => if j = 0 then P2 i n L else P2 (i + 1) (n + 1) L) (fun _ L => P2 (i + 1) (n + 1) L) (fun _ _ _ => False) := by
  have htn : o.t.toNat = i + 1 := by omega
  have e0 : ∀ j (hj : j < [o].length), j = 0 := fun j hj => by simpa using hj
  refine ⟨fun j hj => ?_, fun j hj L hI h5 => ?_, fun j hj n L O hJ => hJ.elim, fun j hj n L hJ => hJ.elim, fun j hj L hI h5 ho => ?_, fun j hj L O hI h5 ho => ?_, fun j L hM hv => ?_, fun j L hM => ?_⟩
  · obtain rfl := e0 j hj
    show 1 ≤ o.t ∧ o.t ≤ 8 ∧ 1 ≤ o.kind ∧ o.kind ≤ 5
    omega
  · obtain rfl := e0 j hj
    have h5 : o.kind = 5 := h5
    omega
  · obtain rfl := e0 j hj
    show P2 (i + 1) (n + 1) (L.start o.t.toNat o)
    rw [htn]
    have hI : (if 0 = 0 then P2 i n L else P2 (i + 1) (n + 1) L) := hI
    rw [if_pos rfl] at hI
    exact hI.start hi hot hk
  · obtain rfl := e0 j hj
    have hI : (if 0 = 0 then P2 i n L else P2 (i + 1) (n + 1) L) := hI
    rw [if_pos rfl] at hI
    have ho : L.op o.t.toNat = some O := ho
    rw [htn] at ho
    obtain ⟨N, r, ks, h1, h2, h3, -⟩ := hI
    rw [h3 _ (by omega)] at ho
    cases ho
  · obtain ⟨N, r, ks, h1, h2, -⟩ := hM
    exact h2.shows hv
  · show (if j + 1 = 0 then P2 i n L else P2 (i + 1) (n + 1) L)
    rw [if_neg (by omega)]
    exact hM
/-- While they are stepped: bd steps are promised. -/
def P3 (n : Nat) (bd : Int) (L : LV) : Prop :=
  ∃ (N : Int) (r : Int → Role) (ks : List Int), N + (FF n : Nat) + bd + 2 ≤ 60000 ∧ GI 28 N r ks L ∧ Bud 28 L ∧ sum9 (liv L) = n ∧ n ≤ 8 ∧ (phi 28 ks L : Int) ≤ bd + 1 ∧ bd ≤ 6336 ∧ -1 ≤ bd
theorem phi_Bq {n : Nat} {N : Int} {r : Int → Role} {ks : List Int} {L : LV} (h : GI 28 N r ks L) (hn : sum9 (liv L) = n) : phi 28 ks L ≤ Bq n := by
  have h1 := phi_le h
  rw [hn] at h1
  refine Nat.le_trans h1 ?_
  unfold Bq q1
  rw [Nat.mul_comm]
  exact Nat.mul_le_mul_left _ (by omega)
theorem P2.third {i n : Nat} {L : LV} (h : P2 i n L) (hi : i ≤ 8) : P3 n (Bq n : Nat) L := by
  obtain ⟨N, r, ks, h1, h2, h3, h4, h5, h6, h7⟩ := h
  have hb := Bq_le (n := n) (by omega)
  have hf := FF_le (n := n) (by omega)
  have hp := phi_Bq h2 h4
  refine ⟨N, r, ks, by omega, h2, fun c hc => ?_, h4, by omega, by omega, by omega, by omega⟩
  have hu : sum9 (und L) ≤ sum9 (liv L) := sum9_le (fun i _ => und_le L i)
  have := h7 c
  omega
theorem P3.live {n : Nat} {bd : Int} {L : LV} (h : P3 n bd L) (hn : 0 < n) : ∃ t O, 1 ≤ t ∧ t ≤ 8 ∧ L.op t = some O := by
  obtain ⟨N, r, ks, h1, h2, h3, h4, h5, h6, h7, h8⟩ := h
  have key : ∃ t, t < 9 ∧ L.op t ≠ none := by
    refine Decidable.byContradiction fun hne => ?_
    have hz : ∀ t, t < 9 → liv L t = 0 := fun t ht => by
      have : L.op t = none := by
        cases hx : L.op t with
        | none => rfl
        | some O => exact absurd ⟨t, ht, by rw [hx]; simp⟩ hne
      unfold liv; rw [this]
    have := sum9_le (f := liv L) (g := fun _ => 0) (fun i hi => by rw [hz i hi]; exact Nat.le_refl _)
    have e0 : sum9 (fun _ => 0) = 0 := rfl
    omega
  obtain ⟨t, ht, hx⟩ := key
  cases ho : L.op t with
  | none => exact absurd ho hx
  | some O => exact ⟨t, O, (h2.op t O ht ho).1, by omega, ho⟩
theorem P3.step {n : Nat} {bd : Int} {L : LV} (h : P3 n bd L) (hv : L.V.Ok) {t : Nat} (ht : t < 9) {O : CO} (ho : L.op t = some O) :
    0 ≤ bd ∧ 1 ≤ n ∧ StepOk L t O (stO L.V L.Y L.B O) ∧ (((∃ O2, (L.step t O).op t = some O2) ∧ P3 n (bd - 1) (L.step t O)) ∨ ((L.step t O).op t = none ∧ P3 (n - 1) (Bq (n - 1) : Nat) (L.step t O) ∧ FF (n - 1) + Bq (n - 1) + 2 ≤ FF n)) := by
  obtain ⟨N, r, ks, h1, h2, h3, h4, h5, h6, h7, h8⟩ := h
  have hpos := phi_pos (M := 28) (ks := ks) ht ho
  have hl1 := sum9_one (f := liv L) ht
  rw [liv_at ho, h4] at hl1
  obtain ⟨sok, r', ks', gi'⟩ := h2.step hv (by have := FF_le h5; omega) ht ho (.inr fun hd => h3.one ht ho hd)
  have hB := h3.step ht ho sok.was
  refine ⟨by omega, hl1, sok, ?_⟩
  by_cases hn : (stO L.V L.Y L.B O).next = 11
  · obtain ⟨e1, e2⟩ := liv_over ht ho hn
    have hn1 : sum9 (liv (L.step t O)) = n - 1 := by omega
    have hp := phi_Bq gi' hn1
    have hq := Bq_le (n := n - 1) (by omega)
    have hff : FF (n - 1) + Bq (n - 1) + 2 ≤ FF n := by
      obtain ⟨k, rfl⟩ : ∃ k, n = k + 1 := ⟨n - 1, by omega⟩
      exact Nat.le_refl _
    exact .inr ⟨by rw [e2, upd_same], ⟨N + 1, r', ks', by omega, gi', hB, hn1, by omega, by omega, by omega, by omega⟩, hff⟩
  · obtain ⟨ks2, g1, g2, g3⟩ := phi_step h2 hv ht ho hn
    have hks : ks2 = ks' := by
      have := gi'.blk
      rw [(step_V L t O).2.2.2, g1] at this
      exact Option.some.inj this
    subst hks
    exact .inl ⟨⟨_, by rw [next_op ht ho hn, upd_same]⟩, N + 1, r', ks2, by omega, gi', hB, by omega, h5, by omega, by omega, by omega⟩
theorem seqM_grow (m : RB) (A : AskV) (c : Nat) : ((seqM m A).getD c ([], 0)).1.length ≤ (m.getD c ([], 0)).1.length + 1 := by
  unfold seqM
  split
  · omega
  · exact effM_grow m A c
theorem Rest.two {P : LB} {m : RB} {w : World} {own : Nat → Nat} {k : Nat} (h : Rest 100 P k m w own) (hk : k ≤ 20) (hm : m.length = 2) (hl : ∀ c, (m.getD c ([], 0)).1.length ≤ 20) : ∃ L ad, LAt 100 P L ad w own ∧ P2 0 0 L := by
  obtain ⟨L, ad, h1, h2⟩ := h
  obtain ⟨r, ks, hg⟩ := h2.gi
  refine ⟨L, ad, h1, _, r, ks, ?_, (hg.shrink h2.alone (by decide) (fun c _ => by rw [h2.m]; have := hl c; omega)), fun t _ => h2.alone t, ?_, Nat.le_refl _, by rw [h2.m]; exact hm, by rw [h2.m]; exact hl⟩
  · omega
  · have := sum9_le (f := liv L) (g := fun _ => 0) (fun i hi => by unfold liv; rw [h2.alone i]; exact Nat.le_refl _)
    have e0 : sum9 (fun _ => 0) = 0 := rfl
    omega
theorem scr3 (wr : World) (own3 : Nat → Nat) (k : Nat) (kd tt ch vv : Int) (o1 o2 : Obj) (h2 : o2 = .cells #[.int .i64 kd, .int .i64 tt, .int .i64 ch, .int .i64 vv] 57 (0, 0)) :
    Ext (fun _ => False) wr ((wr.alloc o1).alloc o2) own3 (PM.ow own3 wr.heap.size k) ∧ Scr ((wr.alloc o1).alloc o2) (PM.ow own3 wr.heap.size k) k (wr.heap.size + 1) [⟨kd, tt, ch, vv⟩] := by
  have hs := World.size_alloc wr o1
  subst h2
  refine ⟨((Ext.refl.ow k).alloc _).alloc _, ?_⟩
  have := Blk.new (own := PM.ow own3 wr.heap.size k) (k := k) (wr.alloc o1) (.cells #[.int .i64 kd, .int .i64 tt, .int .i64 ch, .int .i64 vv] 57) (ow_ge (by omega))
  rw [hs] at this
  exact this
def Fr1 (P : LB) (w0 : World) (own0 : Nat → Nat) (n1 : Nat) (g : Nat) (s23 : Value) (wr : World) : Prop :=
  ∃ (i k : Nat) (own' : Nat → Nat) (m : RB), s23 = .int .i64 i ∧ i + g = n1 ∧ k ≤ 20 ∧ (i < 20 → k = i) ∧ Rest 100 P k m wr own' ∧ m.length = 2 ∧ (∀ c, (m.getD c ([], 0)).1.length ≤ k) ∧ Ext (fun c => c ≠ 0) w0 wr own0 own'
def Fr2 (P : LB) (w0 : World) (own0 : Nat → Nat) (n2 : Nat) (g : Nat) (s10 s42 : Value) (wr : World) : Prop :=
  ∃ (i k n : Nat) (L : LV) (ad own' : Nat → Nat), s42 = .int .i64 i ∧ s10 = .int .i64 n ∧ i + g = n2 ∧ k ≤ 8 ∧ (i < 8 → k = i) ∧ LAt 100 P L ad wr own' ∧ P2 k n L ∧ n ≤ 8 ∧ Ext (fun c => c ≠ 0) w0 wr own0 own'
def Fr3 (P : LB) (w0 : World) (own0 : Nat → Nat) (g : Nat) (s10 s13 s14 : Value) (wr : World) : Prop :=
  ∃ (n : Nat) (bd : Int) (k : Nat) (L : LV) (ad own' : Nat → Nat), s10 = .int .i64 n ∧ s13 = .int .i64 bd ∧ s14 = .int .i64 k ∧ ((FF n : Nat) : Int) + bd + 2 = (g : Int) ∧ k + g ≤ 60000 ∧ LAt 100 P L ad wr own' ∧ P3 n bd L ∧ Ext (fun c => c ≠ 0) w0 wr own0 own'
def dist (t t0 : Nat) : Nat := if t ≤ t0 then t0 - t else t0 + 8 - t
theorem dist_next {t t0 : Nat} (h1 : 1 ≤ t) (h2 : t ≤ 8) (h3 : 1 ≤ t0) (h4 : t0 ≤ 8) (hne : t ≠ t0) : dist (1 + t % 8) t0 + 1 = dist t t0 := by
  unfold dist
  by_cases h8 : t = 8
  · subst h8
    rw [if_pos (by omega), if_neg (by omega)]
    omega
  · rw [Nat.mod_eq_of_lt (by omega)]
    split <;> split <;> omega
def Fr4 (t0 : Nat) (w0 : World) (g : Nat) (s15 : Value) (wr : World) : Prop := ∃ t : Nat, s15 = .int .i64 t ∧ 1 ≤ t ∧ t ≤ 8 ∧ dist t t0 ≤ g ∧ wr = w0
set_option maxHeartbeats 8000000 in
theorem chainFree_walk (w : World) (v : Value) (n1 b off : Nat) (f : Nat → Nat → Int) (hp : Recs Try.prog 22 1 w v n1 b off f) (u : Value) (n2 b2 off2 : Nat) (f2 : Nat → Nat → Int) (hq : Recs Try.prog 32 4 w u n2 b2 off2 f2)
    (x : Value) (n3 b3 off3 : Nat) (f3 : Nat → Nat → Int) (hr : Recs Try.prog 54 1 w x n3 b3 off3 f3) :
    Calls Try.prog 4 #[v, u, x] w fun e w' => e = .returned (.bool true) ∧ Below w.heap.size w w' := by
  have hlen := hp.len
  have hidx := hp.idx
  have hsz := hp.size
  have hlen2 := hq.len
  have hidx2 := hq.idx
  have hsz2 := hq.size
  have hlen3 := hr.len
  have hidx3 := hr.idx
  have hsz3 := hr.size
  go_enter Try.func4, Try.ntmps4
  go_wp2_with fail
  refine (alive_any w).mono ?_
  rintro e w0 ⟨rfl, hB0⟩
  have HB0 := Lib.hid hB0
  clear hB0
  go_wp2_with fail
  refine (CoMade_any w0 100 60000 64 2 (by decide) (by decide) (by decide)).mono ?_
  rintro e w1 ⟨P, own1, rfl, hB1, hc1, hL1⟩
  have HB1 := Lib.hid (HB0.out.trans (hB1.mono HB0.out.size))
  have HOLD := Lib.hid hc1
  have HST : Hid (Fr1 P w1 own1 n1 n1 (.int .i64 0) w1) := Lib.hid ⟨0, 0, own1, _, rfl, by omega, by omega, by omega, ⟨_, _, hL1, (Idle.fresh 60000 64 2 (by decide) (by decide) (by decide) (by decide) (by decide) (by decide)).mono (by decide) (by decide)⟩, rfl, fun c => by
    match c with
    | 0 => exact Nat.le_refl _
    | 1 => exact Nat.le_refl _
    | c + 2 => exact Nat.le_refl _, Ext.refl⟩
  clear hB1 hc1 hL1
  go_wp2_with fail
  go_loopg [23] n1 (fun g s23 wr => Fr1 P w1 own1 n1 g s23 wr)
  case atStart => exact HST.out
  case round =>
    clear HST
    obtain ⟨i, k, own', m, rfl, hi, hk20, hki, hR, hml, hlens, hE⟩ := hrel
    have HR := Lib.hid hR
    have HE := Lib.hid hE
    have HLENS := Lib.hid hlens
    have HML := Lib.hid hml
    have HBW := Lib.hid (below_of HB0.out.size HB1.out HOLD.out hE)
    clear hR hE hlens hml
    by_cases hlt : i < n1
    · have hlt2 : (i : Int) < (n1 : Int) := by omega
      have hx1 := hidx wr i hlt
      have d0 := hp.at_ HBW.out hlt (show 0 < 1 by decide)
      have hbl := hp.lt (by omega)
      rw [Nat.mul_one, Nat.add_zero] at d0
      rw [Nat.mul_one] at hx1
      generalize f i 0 = z at *
      by_cases h20 : (i : Int) < 20
      · obtain rfl := hki (by omega)
        go_wp2_with fail
        obtain ⟨hX4, hS4⟩ := scr1 wr own' 470 1 1 1 z 1 _ rfl
        refine (CoRest_any (HR.out.ext hX4 (fun _ _ _ h => h)) (by omega) (t := 1) (c := 0) hS4 (by unfold PlayC; omega) (by decide) (by decide) rfl (by decide) (by rw [HML.out]; decide) rfl).mono ?_
        rintro e w5 ⟨rfl, own5, hR5, hE5⟩
        have HR5 := Lib.hid hR5
        have HE5 := Lib.hid (HE.out.trans ((hX4.mono (fun c h => h.elim)).trans (hE5.mono (fun c h => by unfold PlayC at h; omega))))
        clear hX4 hS4 hR5 hE5 d0 hx1 hbl
        go_wp2_with fail
        go_roundg (n1 - (k + 1))
        case measure => omega
        case rel => exact ⟨k + 1, k + 1, own5, _, by go_num, by omega, by omega, by omega, HR5.out, by rw [seqM_len]; exact HML.out, fun c => Nat.le_trans (seqM_grow _ _ c) (Nat.add_le_add_right (HLENS.out c) 1), HE5.out⟩
      · go_wp2_with fail
        go_roundg (n1 - (i + 1))
        case measure => omega
        case rel => exact ⟨i + 1, k, own', m, by go_num, by omega, hk20, by omega, HR.out, HML.out, HLENS.out, HE.out⟩
    · have hlt2 : ¬ ((i : Int) < (n1 : Int)) := by omega
      obtain ⟨L, ad, hL, hP2⟩ := HR.out.two hk20 HML.out (fun c => Nat.le_trans (HLENS.out c) hk20)
      have HST : Hid (Fr2 P w1 own1 n2 n2 (.int .i64 0) (.int .i64 0) wr) := Lib.hid ⟨0, 0, 0, L, ad, own', rfl, rfl, by omega, by omega, by omega, hL, hP2, by omega, HE.out⟩
      clear hL hP2 HR HLENS HML hki hk20 HE HBW hi
      go_wp2_with fail
      go_loopg [10, 42] n2 (fun g s10 s42 wr => Fr2 P w1 own1 n2 g s10 s42 wr)
      case atStart => exact HST.out
      case round =>
        clear HST
        obtain ⟨i, k, n, L, ad, own', rfl, rfl, hi, hk8, hki, hL, hP2, hn8, hE⟩ := hrel
        have HL := Lib.hid hL
        have HP2 := Lib.hid hP2
        have HE := Lib.hid hE
        have HBW := Lib.hid (below_of HB0.out.size HB1.out HOLD.out hE)
        clear hL hP2 hE
        by_cases hlt : i < n2
        · have hlt2 : (i : Int) < (n2 : Int) := by omega
          have hx1 := hidx2 wr i hlt
          have d0 := hq.at_ HBW.out hlt (show 0 < 4 by decide)
          have d1 := hq.at_ HBW.out hlt (show 1 < 4 by decide)
          have d2 := hq.at_ HBW.out hlt (show 2 < 4 by decide)
          have d3 := hq.at_ HBW.out hlt (show 3 < 4 by decide)
          have hbl := hq.lt (by omega)
          rw [Nat.add_zero] at d0
          generalize f2 i 0 = kd at *
          generalize f2 i 1 = q1' at *
          generalize f2 i 2 = q2 at *
          generalize f2 i 3 = vv at *
          have hXz := (Ext.refl (M := fun _ => False) (w := wr) (own := own')).ow 470 |>.alloc (.cells #[.int .i64 kd, .int .i64 q1', .int .i64 q2, .int .i64 vv] 57)
          have HSKIP := Lib.hid (HL.out.ext hXz (fun c h => h.elim))
          have HSE := Lib.hid (HE.out.trans (hXz.mono (fun c h => h.elim)))
          clear hXz
          by_cases h8 : (i : Int) < 8
          · obtain rfl := hki (by omega)
            by_cases hk0 : (0 : Int) < kd
            · by_cases hk5 : kd < 5
              · clear HSKIP HSE
                obtain ⟨ct, hct, hbit⟩ := and_le q2 1 (by decide)
                have hbit1 : bits .and .i64 q2 1 = (ct : Int) := hbit
                clear hbit
                go_wp2_with fail
                obtain ⟨hX4, hS4⟩ := scr3 wr own' 470 kd ((k : Int) + 1) (1 + (ct : Int)) vv (.cells #[.int .i64 kd, .int .i64 ((k : Int) + 1), .int .i64 (1 + (ct : Int)), .int .i64 vv] 57) _ rfl
                refine (CoPlay_any (HL.out.ext hX4 (fun c h => h.elim)) hS4 (by unfold PlayC; omega) (by show 1 ≤ 1000; decide) (P2.play (i := k) (n := n) (by omega) (by show (k : Int) + 1 = ((k + 1 : Nat) : Int); omega) ⟨by show 1 ≤ kd; omega, by show kd ≤ 4; omega⟩) (by rw [if_pos rfl]; exact HP2.out)).mono ?_
                rintro e w5 ⟨rfl, L5, ad5, own5, hL5, hI5, hE5⟩
                have HL5 := Lib.hid hL5
                have HI5 : Hid (P2 (k + 1) (n + 1) L5) := Lib.hid (by
                  have hI5 : (if 1 = 0 then P2 k n L5 else P2 (k + 1) (n + 1) L5) := hI5
                  rw [if_neg (by decide)] at hI5
                  exact hI5)
                have HE5 := Lib.hid (HE.out.trans ((hX4.mono (fun c h => h.elim)).trans (hE5.mono (fun c h => by unfold PlayC at h; omega))))
                clear hX4 hS4 hL5 hI5 hE5 d0 d1 d2 d3 hx1 hbl
                have hn8' : n + 1 ≤ 8 := by
                  obtain ⟨_, _, _, _, _, _, _, h9, _⟩ := HI5.out
                  omega
                go_wp2_with fail
                go_roundg (n2 - (k + 1))
                case measure => omega
                case rel => exact ⟨k + 1, k + 1, n + 1, L5, ad5, own5, by go_num, by go_num, by omega, by omega, by omega, HL5.out, HI5.out, hn8', HE5.out⟩
              · go_wp2_with fail
                go_roundg (n2 - (k + 1))
                case measure => omega
                case rel => exact ⟨k + 1, k + 1, n, L, ad, _, by go_num, rfl, by omega, by omega, by omega, HSKIP.out, HP2.out.mono (by omega), hn8, HSE.out⟩
            · go_wp2_with fail
              go_roundg (n2 - (k + 1))
              case measure => omega
              case rel => exact ⟨k + 1, k + 1, n, L, ad, _, by go_num, rfl, by omega, by omega, by omega, HSKIP.out, HP2.out.mono (by omega), hn8, HSE.out⟩
          · go_wp2_with fail
            go_roundg (n2 - (i + 1))
            case measure => omega
            case rel => exact ⟨i + 1, k, n, L, ad, _, by go_num, rfl, by omega, hk8, by omega, HSKIP.out, HP2.out, hn8, HSE.out⟩
        · have hlt2 : ¬ ((i : Int) < (n2 : Int)) := by omega
          go_upto_region 23 with fail
          by_cases hn0 : n = 0
          · subst hn0
            go_wp2_with fail
            go_ret
            exact ⟨rfl, HBW.out⟩
          have hn0b : ((n : Int) == 0) = false := by rw [beq_eq_false_iff_ne]; omega
          by_cases h3 : n3 = 0
          · subst h3
            go_wp2_with fail
            go_ret
            exact ⟨rfl, HBW.out⟩
          have h3b : (((n3 : Nat) : Int) == 0) = false := by rw [beq_eq_false_iff_ne]; omega
          have hq72 := q1_le hn8
          have hb63 := Bq_le hn8
          have hff := FF_le hn8
          have hqc := q1_cast n
          have hbc := Bq_cast n
          have HST : Hid (Fr3 P w1 own1 (FF n + Bq n + 2) (.int .i64 n) (.int .i64 (Bq n : Nat)) (.int .i64 0) wr) := Lib.hid ⟨n, _, 0, L, ad, own', rfl, rfl, rfl, by omega, by omega, HL.out, HP2.out.third (by omega), HE.out⟩
          clear HL HP2 HE HBW hki
          go_wp2_with fail
          clear hqc hbc hq72 hb63 hff
          go_loopg [10, 13, 14] (FF n + Bq n + 2) (fun g s10 s13 s14 wr => Fr3 P w1 own1 g s10 s13 s14 wr)
          case atStart => exact HST.out
          case round =>
            clear HST
            clear hn0 hn0b hn8
            obtain ⟨G, hG⟩ : ∃ G, G = gk := ⟨gk, rfl⟩
            obtain ⟨n, bd, kk, L, ad, own', rfl, rfl, rfl, hg, hkg, hL, hP3, hE⟩ := hrel
            rw [← hG] at hg hkg
            have HL := Lib.hid hL
            have HP3 := Lib.hid hP3
            have HE := Lib.hid hE
            have HBW := Lib.hid (below_of HB0.out.size HB1.out HOLD.out hE)
            clear hL hP3 hE
            by_cases hn : 0 < n
            · have hn2 : (0 : Int) < (n : Int) := by omega
              obtain ⟨t0, O0, ht1, ht8, hop0⟩ := HP3.out.live hn
              have HOP0 := Lib.hid hop0
              clear hop0
              have hql : kk % n3 < n3 := Nat.mod_lt _ (by omega)
              have hq1 : ((kk : Int) % (n3 : Int)) = ((kk % n3 : Nat) : Int) := (Int.natCast_emod kk n3).symm
              have hq2 : Int.tmod (kk : Int) (n3 : Int) = ((kk % n3 : Nat) : Int) := by rw [Int.tmod_eq_emod_of_nonneg (by omega)]; exact hq1
              have hx3 := hidx3 wr (kk % n3) hql
              have hc3 := hr.at_ HBW.out hql (show 0 < 1 by omega)
              rw [Nat.mul_one, Nat.add_zero] at hc3
              rw [Nat.mul_one] at hx3
              obtain ⟨tt, htt, hbit⟩ := and_le (f3 (kk % n3) 0) 7 (by decide)
              have hbit1 : bits .and .i64 (f3 (kk % n3) 0) 7 = (tt : Int) := hbit
              have hbl := hr.lt (by omega)
              have hn3 : ((n3 : Nat) : Int) ≠ 0 := by omega
              generalize kk % n3 = qq at *
              generalize f3 qq 0 = pk at *
              clear hbit
              have hd0 : dist (1 + tt) t0 ≤ 8 := by
                unfold dist
                split <;> omega
              go_wp2_with fail
              clear hx3 hc3 hbl hq1 hq2 hbit1 hql
              go_loopg [15] 8 (fun g s15 wq => Fr4 t0 wr g s15 wq)
              case atStart => exact ⟨1 + tt, by go_num, by omega, by omega, hd0, rfl⟩
              case round =>
                clear hd0
                obtain ⟨t, rfl, t1, t8, hdt, hwq⟩ := hrel
                have hwq' := hwq.symm
                clear hwq
                subst hwq'
                have ht9 : t < 9 := by omega
                obtain ⟨x3, x4, x5, x7, xl, y0, y1, y2, y3, yl, z0, zl1, zl2, zl3⟩ := HL.out.look ht9
                have p0 := HL.out.opc ht9
                have ti0 : (0 : Int) ≤ (t : Int) := by omega
                have ti9 : (t : Int) < 9 := by omega
                clear x4 x5 x7 y0 y1 y2 y3 yl z0 zl2 zl3
                cases hop : L.op t with
                | none =>
                  rw [hop] at p0
                  replace p0 : wr.cell? ⟨P.po, t, none⟩ = some (.pointer none) := p0
                  have hne : t ≠ t0 := fun e => by rw [e, HOP0.out] at hop; cases hop
                  have hdn := dist_next t1 t8 ht1 ht8 hne
                  clear hop
                  have hq1 : ((t : Int) % 8) = ((t % 8 : Nat) : Int) := by omega
                  have hq2 : Int.tmod (t : Int) 8 = ((t % 8 : Nat) : Int) := by rw [Int.tmod_eq_emod_of_nonneg (by omega)]; exact hq1
                  have hq8 : t % 8 < 8 := Nat.mod_lt _ (by decide)
                  have HDN := Lib.hid hdn
                  clear hdn
                  generalize hqq : t % 8 = q8 at *
                  go_wp2_with fail
                  go_roundg (dist (1 + q8) t0)
                  case measure => have := HDN.out; omega
                  case rel => exact ⟨1 + q8, by go_num, by omega, by omega, Nat.le_refl _, rfl⟩
                | some O =>
                  rw [hop] at p0
                  replace p0 : wr.cell? ⟨P.po, t, none⟩ = some (.pointer (some ⟨ad t, 0, none⟩)) := p0
                  obtain ⟨hbd0, hn1, sok, hnx⟩ := HP3.out.step HL.out.arena.1 ht9 hop
                  have hbd6 : bd ≤ 6336 := by
                    obtain ⟨_, _, _, _, _, _, _, _, _, h9, _⟩ := HP3.out
                    exact h9
                  have hbdn : ¬ (bd < 0) := by omega
                  have HONE := Lib.hid (CoOne_any HL.out ht9 hop sok)
                  have HNX := Lib.hid hnx
                  clear hop sok hnx HP3 HOP0
                  go_wp2_with fail
                  refine HONE.out.mono ?_
                  rintro e w6 ⟨rfl, own6, hL6, hE6⟩
                  have HE6 := Lib.hid (HE.out.trans (hE6.mono (M' := fun c => c ≠ 0) (fun c h => by have := step_play ht9 h; unfold PlayC at this; omega)))
                  have HL6 := Lib.hid hL6
                  clear hL6 hE6 x3 xl zl1 p0 HONE HL HE
                  obtain ⟨x3, x4, x5, x7, xl, y0, y1, y2, y3, yl, z0, zl1, zl2, zl3⟩ := HL6.out.look ht9
                  have p0 := HL6.out.opc ht9
                  clear x4 x5 x7 y0 y1 y2 y3 yl z0 zl2 zl3
                  rcases HNX.out with ⟨⟨O2, hO2⟩, hP⟩ | ⟨hO2, hP, hff⟩
                  · rw [hO2] at p0
                    replace p0 : w6.cell? ⟨P.po, t, none⟩ = some (.pointer (some ⟨ad t, 0, none⟩)) := p0
                    have HP := Lib.hid hP
                    clear hO2 hP HNX
                    go_wp2_with fail
                    go_roundg (G - 1)
                    case measure => omega
                    case rel => exact ⟨n, bd - 1, kk + 1, _, ad, own6, rfl, rfl, by go_num, by omega, by omega, HL6.out, HP.out, HE6.out⟩
                  · rw [hO2] at p0
                    replace p0 : w6.cell? ⟨P.po, t, none⟩ = some (.pointer none) := p0
                    obtain ⟨n', rfl⟩ : ∃ n', n = n' + 1 := ⟨n - 1, by omega⟩
                    have hnn : ((n' + 1 : Nat) : Int) - 1 = (n' : Int) := by omega
                    have hn8 : n' ≤ 8 := by
                      obtain ⟨_, _, _, _, _, _, _, h9, _⟩ := hP
                      have : n' ≤ 8 := h9
                      exact this
                    have hq72 := q1_le hn8
                    have hb63 := Bq_le hn8
                    have hqc := q1_cast n'
                    have hbc := Bq_cast n'
                    have HP : Hid (P3 n' (Bq n' : Nat) (L.step t O)) := Lib.hid hP
                    have HFF : Hid (FF n' + Bq n' + 2 ≤ FF (n' + 1)) := Lib.hid hff
                    clear hO2 hP HNX hff
                    generalize hni : ((n' + 1 : Nat) : Int) = ni at *
                    go_wp2_with fail
                    go_roundg (FF n' + Bq n' + 2)
                    case measure => have := HFF.out; omega
                    case rel =>
                      have := HFF.out
                      exact ⟨n', (Bq n' : Nat), kk + 1, _, ad, own6, rfl, rfl, by go_num, by omega, by omega, HL6.out, HP.out, HE6.out⟩
            · have hn2 : ¬ ((0 : Int) < (n : Int)) := by omega
              go_wp2_with fail
              go_ret
              exact ⟨rfl, HBW.out⟩
end Go.Proofs.Ytefhngbeodnldaa
