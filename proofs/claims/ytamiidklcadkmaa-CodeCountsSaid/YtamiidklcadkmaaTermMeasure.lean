/- term.measure, term.right, term.Check: what they answer, over plain terms. -/
import Derived.Test.YtamiidklcadkmaaTermPure
set_option maxRecDepth 20000
set_option linter.unusedVariables false
set_option linter.unusedSimpArgs false
namespace Go.Proofs.Ytamiidklcadkmaa
open Go.RowKit Go.PM
theorem TmV.ext {w w' : World} {own own' : Nat → Nat} {K : Nat} {t : Tm} {v : Value} (h : TmV w (fun g => own g ≠ K) t v) (e : Ext (fun c => c = K) w w' own own') : TmV w' (fun g => own' g ≠ K) t v :=
  h.carry e.size fun g hg hc => ⟨e.same g hg hc, by show own' g ≠ K; rw [e.col g hg]; exact hc⟩
def MsPost (K q : Nat) (w : World) (own : Nat → Nat) (r : Int × Bool × Int) (e : Ending) (w' : World) : Prop :=
  ∃ own', e = .returned (.tuple #[.int .i64 r.1, .bool r.2.1]) ∧ Ext (fun c => c = K) w w' own own' ∧ Blk w' own' K q (.cells #[.int .i64 r.2.2] 3 (0, 0))
theorem ms_end {w : World} {own : Nat → Nat} {K q : Nat} {n d : Int} {ok : Bool} {e : Ending} (h : Blk w own K q (.cells #[.int .i64 n] 3 (0, 0))) (o : Obj) (he : e = .returned (.tuple #[.int .i64 d, .bool ok])) : MsPost K q w own (d, ok, n + 1) e ((w.setCell ⟨q, 0, none⟩ (.int .i64 (n + 1))).alloc o) :=
  ⟨own, he, (Ext.refl.setCell (fun _ => h.col) _).alloc o, by have := (h.setCell 0 (.int .i64 (n + 1))).alloc o; simpa using this⟩
theorem MsPost.drewN {w w' : World} {own : Nat → Nat} {K q : Nat} {r : Int × Bool × Int} {e : Ending} (h : MsPost K q w own r e w') (m : Nat) : MsPost K q w own r e (w'.drewN m) := by
  obtain ⟨own', h1, h2, h3⟩ := h
  exact ⟨own', h1, h2.drewN m, h3.drewN m⟩
def MsInv (w2 : World) (own1 : Nat → Nat) (K q : Nat) (ls : List Tm) (deep : Int) (b : Bool) (r : Int × Bool × Int) (g : Nat) (dv iv : Value) (w : World) : Prop :=
  ∃ (own : Nat → Nat) (i : Nat) (d n : Int), iv = .int .i64 i ∧ i + g = ls.length ∧ dv = .int .i64 d ∧ 0 ≤ d ∧ d ≤ 1000 ∧ 0 ≤ n ∧ n ≤ 2000 ∧ Tms.meas (ls.drop i) (deep + 1) n d b = r ∧ Blk w own K q (.cells #[.int .i64 n] 3 (0, 0)) ∧ Ext (fun c => c = K) w2 w own1 own
theorem run_max (ts : Array TypeId) (ty : TypeId) (a b : Int) (w : World) : (Builtin.max_ ts ty #[.int .i64 a, .int .i64 b]).run Try.prog w = .ok (.int .i64 (max a b)) w := by
  simp only [Builtin.max_, List.foldlM_cons, List.foldlM_nil, Builtin.max2]
  have : (if a < b then b else a) = max a b := by split <;> omega
  simp [← this]
theorem Tm.at_shape {w : World} {C : Nat → Prop} : ∀ {t : Tm} {sl : Value}, Tm.At w C t sl → ∃ a n c, sl = .slice a n c
  | .mk _ _ _ ls, sl, h => by
    unfold Tm.At at h
    rcases h with ⟨_, a, c, rfl⟩ | ⟨_, g, off, c, rfl, _⟩ <;> exact ⟨_, _, _, rfl⟩
theorem elem_ext {w wr : World} {own own' : Nat → Nat} {K : Nat} {ls : List Tm} {g off : Nat} (hts : Tms.At w (fun g => own g ≠ K) ls g off) (hg : g < w.heap.size) (hc : own g ≠ K) (hB : Ext (fun c => c = K) w wr own own') {i : Nat} (hlt : i < ls.length) :
    ∃ a2 n2 c2, wr.cell? ⟨g, off + i * 4, none⟩ = some (.int .i64 ls[i].k) ∧ wr.cell? ⟨g, off + i * 4 + 1, none⟩ = some (.string ls[i].s) ∧ wr.cell? ⟨g, off + i * 4 + 2, none⟩ = some (.int .i64 ls[i].x) ∧ wr.cell? ⟨g, off + i * 4 + 3, none⟩ = some (.slice a2 n2 c2) ∧
      TmV wr (fun g => own' g ≠ K) ls[i] (.agg #[.int .i64 ls[i].k, .string ls[i].s, .int .i64 ls[i].x, .slice a2 n2 c2]) := by
  obtain ⟨q0, q1, q2, w0, w1', w2, sl2, q3, ha2⟩ := Tms.at_get hts hlt
  obtain ⟨a2, n2, c2, rfl⟩ := Tm.at_shape ha2
  have hcell : ∀ o, wr.cell? ⟨g, o, none⟩ = w.cell? ⟨g, o, none⟩ := fun o => by
    unfold World.cell?
    simp only [hB.same g hg hc]
  refine ⟨a2, n2, c2, by rw [hcell]; exact q0, by rw [hcell]; exact q1, by rw [hcell]; exact q2, by rw [hcell]; exact q3, TmV.ext (w := w) ⟨_, rfl, w0, w1', w2, ha2⟩ hB⟩
set_option maxHeartbeats 4000000 in
theorem measure_any : ∀ (t : Tm) (w : World) (own : Nat → Nat) (K q : Nat) (v : Value) (deep n : Int), TmV w (fun g => own g ≠ K) t v → Blk w own K q (.cells #[.int .i64 n] 3 (0, 0)) → 0 ≤ deep → deep ≤ 1000000 → 0 ≤ n → n ≤ 1000000 →
    Calls Try.prog 58 #[v, .int .i64 deep, .pointer (some ⟨q, 0, none⟩)] w (MsPost K q w own (Tm.meas t deep n)) := by
  refine Tm.ind fun k s x ls ih w own K q v deep n hv hq hd1 hd2 hn1 hn2 => ?_
  obtain ⟨sl, rfl, wk, ws, wx, hat⟩ := hv
  have HAT := Lib.hid hat
  have IH := Lib.hid ih
  have HR := Lib.hid (show Tm.meas (.mk k s x ls) deep n = _ by unfold Tm.meas; rfl)
  have hk1 : Tm.k (.mk k s x ls) = k := rfl
  have hs1 : Tm.s (.mk k s x ls) = s := rfl
  have hx1 : Tm.x (.mk k s x ls) = x := rfl
  have HQ := Lib.hid hq
  have cq : w.cell? ⟨q, 0, none⟩ = some (.int .i64 n) := hq.cell 0
  have hql := hq.lt
  have fq := hq.free 0
  rw [hk1, hs1, hx1]
  clear hat ih hk1 hs1 hx1 wk ws wx hq
  unfold Tm.At at HAT
  by_cases h0 : 2000 < n + 1
  · go_enter Try.func58, Try.ntmps58
    go_wp2_with fail
    go_ret2
    rw [HR.out, if_pos (.inl h0)]
    exact ms_end HQ.out _ (by rfl)
  by_cases h1 : 100 < deep
  · go_enter Try.func58, Try.ntmps58
    go_wp2_with fail
    go_ret2
    rw [HR.out, if_pos (.inr h1)]
    exact ms_end HQ.out _ (by rfl)
  rw [if_neg (by omega)] at HR
  by_cases k2 : k = 2
  · subst k2
    go_enter Try.func58, Try.ntmps58
    go_wp2_with fail
    go_ret2
    rw [HR.out, if_neg (by decide), if_pos trivial]
    exact ms_end HQ.out _ (by rfl)
  by_cases k1 : k = 1
  · subst k1
    rw [if_pos rfl] at HR
    by_cases hx : 1 ≤ x
    · rw [decide_eq_true hx] at HR
      go_enter Try.func58, Try.ntmps58
      go_wp2_with fail
      go_quiet (fail)
      go_wp2_with fail
      go_ret2
      rw [HR.out]
      exact (ms_end HQ.out _ (by rfl)).drewN _
    · go_enter Try.func58, Try.ntmps58
      go_wp2_with fail
      go_quiet (fail)
      go_wp2_with fail
      go_ret2
      rw [HR.out]
      exact (ms_end HQ.out _ (by rfl)).drewN _
  rw [if_neg k1, if_neg k2] at HR
  by_cases k4 : k = 4
  · subst k4
    rw [if_pos rfl] at HR
    rcases HAT.out with ⟨hl, a, c, rfl⟩ | ⟨hl, g, off, c, rfl, hg, hc, hts⟩
    · subst hl
      rw [if_pos (.inl (by simp))] at HR
      go_enter Try.func58, Try.ntmps58
      go_wp2_with fail
      go_ret2
      rw [HR.out]
      exact ms_end HQ.out _ (by rfl)
    · by_cases hl1 : (ls.length : Int) < 1
      · rw [if_pos (by omega)] at HR
        go_enter Try.func58, Try.ntmps58
        go_wp2_with fail
        go_ret2
        rw [HR.out]
        exact ms_end HQ.out _ (by rfl)
      by_cases hl8 : 8 < (ls.length : Int)
      · rw [if_pos (by omega)] at HR
        go_enter Try.func58, Try.ntmps58
        go_wp2_with fail
        go_ret2
        rw [HR.out]
        exact ms_end HQ.out _ (by rfl)
      rw [if_neg (by omega)] at HR
      have HTS := Lib.hid hts
      have HRR := Lib.hid HR.out
      rw [HRR.out]
      generalize hrr : Tms.meas ls (deep + 1) (n + 1) 0 (decide (s.size ≤ 64)) = r at *
      generalize hbb : decide (s.size ≤ 64) = bb at *
      have HB0 : Hid (decide ((s.size : Int) ≤ 64) = bb) := Lib.hid (by rw [← hbb]; exact decide_eq_decide.2 (by omega))
      have HR0 := Lib.hid hrr
      clear hts HAT HR HRR hbb hrr
      have hmx := run_max
      go_enter Try.func58, Try.ntmps58
      go_wp2_with fail
      have hbx : Blk ((w.setCell ⟨q, 0, none⟩ (.int .i64 (n + 1))).alloc (.cells #[.int .i64 4, .string s, .int .i64 x, .slice (some ⟨g, off, none⟩) ls.length c] 24)) (ow own w.heap.size (K + 1)) (K + 1) w.heap.size (.cells #[.int .i64 4, .string s, .int .i64 x, .slice (some ⟨g, off, none⟩) ls.length c] 24 (0, 0)) := by
        have := Blk.new (own := ow own w.heap.size (K + 1)) (k := K + 1) (w.setCell ⟨q, 0, none⟩ (.int .i64 (n + 1))) (.cells #[.int .i64 4, .string s, .int .i64 x, .slice (some ⟨g, off, none⟩) ls.length c] 24) (by rw [World.size_setCell]; exact ow_ge (Nat.le_refl _))
        rwa [World.size_setCell] at this
      have hE0 : Ext (fun c => c = K) w ((w.setCell ⟨q, 0, none⟩ (.int .i64 (n + 1))).alloc (.cells #[.int .i64 4, .string s, .int .i64 x, .slice (some ⟨g, off, none⟩) ls.length c] 24)) own (ow own w.heap.size (K + 1)) :=
        ((Ext.refl.ow (K + 1)).setCell (fun _ => HQ.out.col) _).alloc _
      have hq0 : Blk ((w.setCell ⟨q, 0, none⟩ (.int .i64 (n + 1))).alloc (.cells #[.int .i64 4, .string s, .int .i64 x, .slice (some ⟨g, off, none⟩) ls.length c] 24)) (ow own w.heap.size (K + 1)) K q (.cells #[.int .i64 (n + 1)] 3 (0, 0)) := by
        have := ((HQ.out.setCell 0 (.int .i64 (n + 1))).alloc (.cells #[.int .i64 4, .string s, .int .i64 x, .slice (some ⟨g, off, none⟩) ls.length c] 24)).recol (own' := ow own w.heap.size (K + 1)) (by rw [ow_lt hql]; exact HQ.out.col)
        simpa using this
      generalize hw2 : (w.setCell ⟨q, 0, none⟩ (.int .i64 (n + 1))).alloc (.cells #[.int .i64 4, .string s, .int .i64 x, .slice (some ⟨g, off, none⟩) ls.length c] 24) = w2 at *
      generalize ow own w.heap.size (K + 1) = own1 at *
      have HBX := Lib.hid hbx
      have HE0 := Lib.hid hE0
      have HQ0 := Lib.hid hq0
      clear hbx hE0 hq0 hw2 cq fq HQ
      go_loopg [6, 51] ls.length (fun g dv iv wr => MsInv w2 own1 K q ls deep bb r g dv iv wr)
      case atStart => exact ⟨own1, 0, 0, n + 1, rfl, by omega, rfl, by omega, by omega, by omega, by omega, HR0.out, HQ0.out, Ext.refl⟩
      case round =>
        obtain ⟨ownr, i, d, m, rfl, hi, rfl, hd3, hd4, hm1, hm2, hr, hqr, hEr⟩ := hrel
        have HQR := Lib.hid hqr
        have HER := Lib.hid (HE0.out.trans hEr)
        have HEW := Lib.hid hEr
        have hbr := HBX.out.ext hEr (by omega)
        have b1 : wr.cell? ⟨w.heap.size, 1, none⟩ = some (.string s) := hbr.cell 1
        have b3 : wr.cell? ⟨w.heap.size, 3, none⟩ = some (.slice (some ⟨g, off, none⟩) ls.length c) := hbr.cell 3
        clear hqr hEr hbr
        by_cases hlt : i < ls.length
        · have hlt2 : (i : Int) < ls.length := by omega
          rw [List.drop_eq_getElem_cons hlt] at hr
          unfold Tms.meas at hr
          have HRR := Lib.hid hr
          obtain ⟨a2, l2, c2, q0, q1, q2, q3, htv⟩ := elem_ext HTS.out hg hc HER.out hlt
          have hmo := meas_ok ls[i] (deep + 1) m
          have hp1 := sz_pos ls[i]
          have hp2 := dp_pos ls[i]
          have HI := Lib.hid (IH.out ls[i] (List.getElem_mem hlt) (wr.alloc (.cells #[.int .i64 ls[i].k, .string ls[i].s, .int .i64 ls[i].x, .slice a2 l2 c2] 24)) (ow ownr wr.heap.size (K + 1)) K q _ (deep + 1) m (htv.carry (by rw [World.size_alloc]; omega) fun g hg hc => ⟨heap_alloc_old wr _ hg, by show ow ownr wr.heap.size (K + 1) g ≠ K; rw [ow_lt hg]; exact hc⟩) ((HQR.out.ow (K + 1)).alloc _) (by omega) (by omega) (by omega) (by omega))
          have HMO := Lib.hid hmo
          clear hr htv hmo
          generalize Tm.k ls[i] = k1 at *
          generalize Tm.s ls[i] = s1 at *
          generalize Tm.x ls[i] = x1 at *
          obtain ⟨d2, ok2, n2, hmm⟩ : ∃ d2 ok2 n2, Tm.meas ls[i] (deep + 1) m = (d2, ok2, n2) := ⟨_, _, _, rfl⟩
          rw [hmm] at HI HRR HMO
          clear hmm
          go_wp2_with fail
          refine HI.out.mono ?_
          rintro e w5 ⟨own5, rfl, hE5, hq5⟩
          have HE5 := Lib.hid ((HER.out.ow (K + 1)).alloc (.cells #[.int .i64 k1, .string s1, .int .i64 x1, .slice a2 l2 c2] 24) |>.trans hE5)
          have HQ5 := Lib.hid hq5
          have HEV := Lib.hid ((HEW.out.ow (K + 1)).alloc (.cells #[.int .i64 k1, .string s1, .int .i64 x1, .slice a2 l2 c2] 24) |>.trans hE5)
          clear hE5 hq5 HI q0 q1 q2 q3 HQR HER
          cases ok2 with
          | false =>
            rw [if_neg (by decide)] at HRR
            have HF := Lib.hid HRR.out
            clear HRR
            go_wp2_with fail
            go_ret2
            rw [← HF.out]
            exact ⟨own5, by rfl, HE5.out, HQ5.out⟩
          | true =>
            have hmo := HMO.out.2 rfl
            have hmo1 := HMO.out.1.1 rfl
            obtain ⟨g1, g2⟩ := hmo
            obtain ⟨g3, g4, _⟩ := hmo1
            subst g1
            subst g2
            rw [if_pos rfl] at HRR
            have HF := Lib.hid HRR.out
            clear HRR HMO
            have g5 : 0 ≤ m + Tm.sz ls[i] := by omega
            generalize Tm.dp ls[i] = d2 at *
            generalize m + Tm.sz ls[i] = n2 at *
            go_wp2_with fail
            go_roundg (ls.length - (i + 1))
            case measure => omega
            case rel => exact ⟨own5, i + 1, max d d2, n2, by go_num, by omega, rfl, by omega, by omega, by omega, by omega, HF.out, HQ5.out, HEV.out⟩
        · obtain rfl : i = ls.length := by omega
          rw [List.drop_length] at hr
          unfold Tms.meas at hr
          subst hr
          cases bb with
          | true =>
            have hx2 : (s.size : Int) ≤ 64 := of_decide_eq_true HB0.out
            go_wp2_with fail
            go_quiet (fail)
            go_wp2_with fail
            go_ret2
            exact ⟨ownr, by rfl, HER.out.drewN _, HQR.out.drewN _⟩
          | false =>
            have hx2 : ¬ (s.size : Int) ≤ 64 := of_decide_eq_false HB0.out
            have hx3 := HB0.out
            go_wp2_with fail
            go_quiet (fail)
            go_wp2_with fail
            go_ret2
            exact ⟨ownr, by rfl, HER.out.drewN _, HQR.out.drewN _⟩
  rw [if_neg k4] at HR
  by_cases k3 : k = 3
  · subst k3
    rw [if_pos rfl] at HR
    by_cases hx : s.size ≤ 64
    · have hx2 : (s.size : Int) ≤ 64 := by omega
      rw [decide_eq_true hx] at HR
      go_enter Try.func58, Try.ntmps58
      go_wp2_with fail
      go_quiet (fail)
      go_wp2_with fail
      go_ret2
      rw [HR.out]
      exact (ms_end HQ.out _ (by rfl)).drewN _
    · have hx2 : ¬ (s.size : Int) ≤ 64 := by omega
      rw [show decide (s.size ≤ 64) = decide ((s.size : Int) ≤ 64) by rw [decide_eq_false hx, decide_eq_false hx2]] at HR
      go_enter Try.func58, Try.ntmps58
      go_wp2_with fail
      go_quiet (fail)
      go_wp2_with fail
      go_ret2
      rw [HR.out]
      exact (ms_end HQ.out _ (by rfl)).drewN _
  rw [if_neg k3] at HR
  have b1 : (k == 1) = false := by simp [k1]
  have b2 : (k == 2) = false := by simp [k2]
  have b3 : (k == 3) = false := by simp [k3]
  have b4 : (k == 4) = false := by simp [k4]
  go_enter Try.func58, Try.ntmps58
  go_wp2_with fail
  go_ret2
  rw [HR.out]
  exact ms_end HQ.out _ (by rfl)
end Go.Proofs.Ytamiidklcadkmaa
