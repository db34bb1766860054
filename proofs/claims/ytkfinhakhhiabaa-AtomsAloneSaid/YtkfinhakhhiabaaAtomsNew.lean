/- Layer 3: New, Intern. -/
import Derived.Test.YtkfinhakhhiabaaAtomsLen
set_option maxRecDepth 20000
set_option linter.unusedVariables false
set_option linter.unusedSimpArgs false
namespace Go.Proofs.Ytkfinhakhhiabaa
open Go.RowKit Go.PM

theorem run_max (ts : Array TypeId) (ty : TypeId) (a b : Int) (w : World) : (Builtin.max_ ts ty #[.int .i64 a, .int .i64 b]).run Try.prog w = .ok (.int .i64 (max a b)) w := by
  simp only [Builtin.max_, List.foldlM_cons, List.foldlM_nil, Builtin.max2]
  have : (if a < b then b else a) = max a b := by split <;> omega
  simp [← this]
theorem run_min (ts : Array TypeId) (ty : TypeId) (a b : Int) (w : World) : (Builtin.min_ ts ty #[.int .i64 a, .int .i64 b]).run Try.prog w = .ok (.int .i64 (min a b)) w := by
  simp only [Builtin.min_, List.foldlM_cons, List.foldlM_nil, Builtin.min2]
  have : (if b < a then b else a) = min a b := by split <;> omega
  simp [← this]
def TV.fresh (b buckets most : Int) : TV := ⟨b, min (max buckets 1) 64, min (max most 0) 4096, fun _ => none⟩
section
variable {w : World} {own : Nat → Nat} {ka kt ko a t o : Nat} {V : AV} {T : TV} {O : OV} {ls : Nat → List Int} {nb : Nat}
set_option maxHeartbeats 2000000 in
theorem TNew_any (hA : Arena w own ka a V) (hm : V.made < 1000000000000000) (buckets most : Int) (he : V.allocErr (min (max buckets 1) 64 + 1) = 0) (hat : ka ≠ kt) :
    Calls Try.prog 7 #[.pointer (some ⟨a, 0, none⟩), .int .i64 buckets, .int .i64 most] w fun e w' => ∃ t own', e = .returned (.tuple #[.pointer (some ⟨t, 0, none⟩), .int .i64 0]) ∧ Ext (fun c => c = ka) w w' own own' ∧
      Arena w' own' ka a (V.alloc (min (max buckets 1) 64 + 1)) ∧ Table w' own' kt t a (TV.fresh (V.made + 1) buckets most) := by
  have hmx := run_max
  have hmn := run_min
  have hmm := @run_makeMap Try.prog
  have hb1 : 1 ≤ min (max buckets 1) 64 ∧ min (max buckets 1) 64 ≤ 64 := by omega
  have HAL := Lib.hid (Alloc_any hA hm (min (max buckets 1) 64 + 1))
  rw [he, if_pos rfl] at HAL
  have HTV := Lib.hid (show TV.fresh (V.made + 1) buckets most = ⟨V.made + 1, min (max buckets 1) 64, min (max most 0) 4096, fun _ => none⟩ from rfl)
  clear hA he
  go_enter Try.func7, Try.ntmps7
  go_wp2_with fail
  refine HAL.out.mono ?_
  rintro e w2 ⟨rfl, own2, hE2, hA2⟩
  clear HAL
  go_wp2_with fail
  go_ret2
  have hX : ∀ (M : Nat → Prop) (o1 o2 : Obj), Ext M w2 ((w2.alloc o1).alloc o2) own2 (ow own2 w2.heap.size kt) := fun M o1 o2 => ((Ext.refl.ow kt).alloc o1).alloc o2
  refine ⟨w2.heap.size + 1, ow own2 w2.heap.size kt, rfl, hE2.trans (hX _ _ _), hA2.ext (hX (fun _ => False) _ _) (by simp), w2.heap.size, 0, [], ?_, ?_, ⟨List.Pairwise.nil, fun k => by rw [HTV.out]; rfl⟩⟩
  · rw [HTV.out]
    have := Blk.new (own := ow own2 w2.heap.size kt) (k := kt) (w2.alloc (.map #[] 0)) (.cells #[.pointer (some ⟨a, 0, none⟩), .int .i64 (V.made + 1), .int .i64 (min (max buckets 1) 64), .int .i64 (min (max most 0) 4096), .map (some w2.heap.size)] 50) (by rw [World.size_alloc]; exact ow_ge (by omega))
    rwa [World.size_alloc] at this
  · have := (Blk.new (own := ow own2 w2.heap.size kt) (k := kt) w2 (.map #[] 0) (ow_ge (Nat.le_refl _))).alloc (.cells #[.pointer (some ⟨a, 0, none⟩), .int .i64 (V.made + 1), .int .i64 (min (max buckets 1) 64), .int .i64 (min (max most 0) 4096), .map (some w2.heap.size)] 50)
    simpa [mobj, rawN] using this
/-! ### steps, one behind the other -/
structure St where
  V : AV
  T : TV
  O : OV
def St.step (s : St) : St := ⟨stepV s.V s.T s.O, stepT s.V s.T s.O, stepO s.V s.T s.O⟩
def St.iter (s : St) : Nat → St
  | 0 => s
  | k + 1 => (s.iter k).step
theorem St.step_over {s : St} (h : s.O.next = 9) : s.step = s := by
  obtain ⟨V, T, O⟩ := s
  have h : O.next = 9 := h
  unfold St.step stepV stepT stepO lastV lastT lastO
  simp [h]
theorem St.iter_over {s : St} {j : Nat} (h : (s.iter j).O.next = 9) : ∀ n, s.iter (j + n) = s.iter j
  | 0 => rfl
  | n + 1 => by
    show (s.iter (j + n)).step = _
    rw [St.iter_over h n, St.step_over h]
/-- No arena on the way is at its counters' end. -/
def St.Calm (s : St) (k : Nat) : Prop := ∀ j, j ≤ k → (s.iter j).V.faults < 1000000000000000 ∧ (s.iter j).V.made < 1000000000000000
theorem ext_drop {M : Nat → Prop} {w' : World} {own' : Nat → Nat} {K : Nat} (h : Ext (fun c => M c ∨ c = K) w w' own own') (hK : ∀ b, b < w.heap.size → own b < K) : Ext M w w' own own' :=
  ⟨h.os, h.tape, h.output, h.size, h.col, fun b hb hn => h.same b hb (fun hc => by
    rcases hc with hc | hc
    · exact hn hc
    · have := hK b hb; omega)⟩
def InInv (w0 : World) (own0 : Nat → Nat) (ka kt K a t o : Nat) (s : St) (k : Nat) (g : Nat) (w : World) : Prop :=
  ∃ (own : Nat → Nat) (j : Nat), j + g = k ∧ 0 < g ∧ Arena w own ka a (s.iter j).V ∧ Table w own kt t a (s.iter j).T ∧ OpAt w own K o t (s.iter j).O ∧ Ext (fun c => (c = ka ∨ c = kt) ∨ c = K) w0 w own0 own
set_option maxHeartbeats 2000000 in
theorem Intern_any (hA : Arena w own ka a V) (hT : Table w own kt t a T) (hat : ka ≠ kt) (hb : 1 ≤ T.buckets ∧ T.buckets ≤ 64) (s : ByteArray) (hs : s.size ≤ 9223372036854775807) (k : Nat) (hk : 0 < k) (hov : ((St.iter ⟨V, T, OV.begin_ T s⟩ k).O.next = 9)) (hcalm : St.Calm ⟨V, T, OV.begin_ T s⟩ k) :
    Calls Try.prog 17 #[.pointer (some ⟨t, 0, none⟩), .string s] w fun e w' => ∃ own', e = .returned (St.iter ⟨V, T, OV.begin_ T s⟩ k).O.answer ∧ Ext (fun c => c = ka ∨ c = kt) w w' own own' ∧
      Arena w' own' ka a (St.iter ⟨V, T, OV.begin_ T s⟩ k).V ∧ Table w' own' kt t a (St.iter ⟨V, T, OV.begin_ T s⟩ k).T := by
  obtain ⟨K, hK⟩ := fresh_colour own w.heap.size
  have hka : ka < K := by
    obtain ⟨h1, h2⟩ := hA.lt
    rw [← h2]; exact hK a h1
  have hkt : kt < K := by
    obtain ⟨_, _, _, hT1⟩ := hT
    have := hK t hT1.root.lt
    rw [hT1.root.col] at this
    exact this
  have HBG := Lib.hid (Begin_any (own := own) hT hb s hs K)
  have HA := Lib.hid hA
  have HT := Lib.hid hT
  have HK := Lib.hid hK
  have HC := Lib.hid hcalm
  have HOV := Lib.hid hov
  obtain ⟨st, hst⟩ : ∃ st : St, st = ⟨V, T, OV.begin_ T s⟩ := ⟨_, rfl⟩
  have HST := Lib.hid hst
  rw [← hst] at HC HOV ⊢
  clear hA hT hK hcalm hov hst
  go_enter Try.func17, Try.ntmps17
  go_wp2_with fail
  refine HBG.out.mono ?_
  rintro e w2 ⟨o, rfl, ho, hB, hO2⟩
  have hX : ∀ M, Ext M w w2 own (ow own w.heap.size K) := fun M => Ext.of_below hB own K
  have hA2 := HA.out.ext (hX (fun _ => False)) (by simp)
  have hT2 := HT.out.ext (hX (fun _ => False)) (by simp)
  have HE2 := Lib.hid (hX (fun c => (c = ka ∨ c = kt) ∨ c = K))
  clear hB hX HBG HA HT
  generalize ow own w.heap.size K = own2 at *
  go_wp2_with fail
  go_loopg [] k (fun g wr => InInv w own ka kt K a t o st k g wr)
  case atStart => exact ⟨own2, 0, by omega, hk, by rw [HST.out]; exact hA2, by rw [HST.out]; exact hT2, by rw [HST.out]; exact hO2, HE2.out⟩
  case round =>
    clear hA2 hT2 hO2 HE2
    obtain ⟨own3, j, hj, hg, hA, hT, hO, hE⟩ := hrel
    have HE := Lib.hid hE
    obtain ⟨cf, cm⟩ := HC.out j (by omega)
    have HS := Lib.hid (Step_any hA hT hO hat (by omega) (by omega) cf cm)
    have HN := Lib.hid (show st.iter (j + 1) = ⟨stepV (st.iter j).V (st.iter j).T (st.iter j).O, stepT (st.iter j).V (st.iter j).T (st.iter j).O, stepO (st.iter j).V (st.iter j).T (st.iter j).O⟩ from rfl)
    clear hA hT hO hE
    go_wp2_with fail
    refine HS.out.mono ?_
    rintro e w3 ⟨rfl, own4, hE4, hA4, hT4, hO4⟩
    have HE4 := Lib.hid (HE.out.trans (hE4.mono (M' := fun c => (c = ka ∨ c = kt) ∨ c = K) (by intro c h; rcases h with h | h | h <;> simp [h])))
    have e1 : stepV (st.iter j).V (st.iter j).T (st.iter j).O = (st.iter (j + 1)).V := by rw [HN.out]
    have e2 : stepT (st.iter j).V (st.iter j).T (st.iter j).O = (st.iter (j + 1)).T := by rw [HN.out]
    have e3 : stepO (st.iter j).V (st.iter j).T (st.iter j).O = (st.iter (j + 1)).O := by rw [HN.out]
    rw [e1] at hA4
    rw [e2] at hT4
    rw [e3] at hO4 ⊢
    clear e1 e2 e3 hE4 HE HS HN
    by_cases h9 : (st.iter (j + 1)).O.next = 9
    · have b1 : ((st.iter (j + 1)).O.next == 9) = true := by simp [h9]
      have HK2 := Lib.hid (show st.iter k = st.iter (j + 1) by
        have := St.iter_over h9 (k - (j + 1))
        rwa [show j + 1 + (k - (j + 1)) = k by omega] at this)
      have HANS := Lib.hid (Answer_any hO4)
      clear h9
      go_wp2_with fail
      refine HANS.out.mono ?_
      rintro e w5 ⟨rfl, n5, rfl⟩
      have hX : ∀ M, Ext M w3 (w3.drewN n5) own4 own4 := fun M => Ext.refl.drewN n5
      have hA5 := hA4.ext (hX (fun _ => False)) (by simp)
      have hT5 := hT4.ext (hX (fun _ => False)) (by simp)
      have HE5 := Lib.hid (ext_drop (HE4.out.trans (hX _)) HK.out)
      obtain ⟨va, ve, hve⟩ : ∃ x y, (st.iter (j + 1)).O.answer = .tuple #[.int .i64 x, .int .i64 y] := by
        unfold OV.answer; split
        · exact ⟨_, _, rfl⟩
        · exact ⟨_, _, rfl⟩
      have HVE := Lib.hid hve
      rw [hve]
      clear hA4 hT4 hO4 HE4 HANS hX hve
      go_wp2_with fail
      go_ret2
      exact ⟨own4, by rw [HK2.out, HVE.out]; rfl, HE5.out, by rw [HK2.out]; exact hA5, by rw [HK2.out]; exact hT5⟩
    · have b1 : ((st.iter (j + 1)).O.next == 9) = false := by simp [h9]
      have hjk : j + 1 ≠ k := fun h => h9 (by rw [h]; exact HOV.out)
      clear h9
      go_wp2_with fail
      go_roundg (k - (j + 1))
      case measure => omega
      case rel => exact ⟨own4, j + 1, by omega, by omega, hA4, hT4, hO4, HE4.out⟩
end
end Go.Proofs.Ytkfinhakhhiabaa
