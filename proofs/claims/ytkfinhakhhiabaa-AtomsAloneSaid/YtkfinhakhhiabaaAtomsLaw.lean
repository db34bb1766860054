/- The law package's own functions: known, alive. -/
import Derived.Test.YtkfinhakhhiabaaAtomsNew
import Derived.Test.YtkfinhakhhiabaaStrs
import Derived.Test.YtkfinhakhhiabaaInts
set_option maxRecDepth 20000
set_option linter.unusedVariables false
set_option linter.unusedSimpArgs false
namespace Go.Proofs.Ytkfinhakhhiabaa
open Go.RowKit Go.PM

theorem ar_as {f : FuncId} {args : Array Value} {k a : Nat} {V V' : AV} {w : World} {own : Nat → Nat} {r r' : Value} (h : Calls Try.prog f args w (ArPost k a V w own r)) (hr : r = r') (hV : V = V') :
    Calls Try.prog f args w (ArPost k a V' w own r') := by subst hr; subst hV; exact h
/-! ### how far the counters move -/
theorem touch_f (V : AV) (b : Int) : (V.touch b).faults ≤ V.faults + 1 ∧ (V.touch b).made = V.made := by
  unfold AV.touch
  cases V.find b with
  | none => exact ⟨Int.le_refl _, rfl⟩
  | some _ => exact ⟨by show V.faults ≤ V.faults + 1; omega, rfl⟩
theorem store_f (V : AV) (b i v : Int) : (V.store b i v).faults ≤ V.faults + 1 ∧ (V.store b i v).made = V.made := by
  unfold AV.store
  split
  · exact ⟨by show V.faults ≤ V.faults + 1; omega, rfl⟩
  · exact touch_f V b
theorem swap_f (V : AV) (b i x y : Int) : (V.swap b i x y).faults ≤ V.faults + 1 ∧ (V.swap b i x y).made = V.made := by
  unfold AV.swap
  split
  · exact ⟨by show V.faults ≤ V.faults + 1; omega, rfl⟩
  · exact touch_f V b
theorem free_f (V : AV) (b : Int) : (V.free b).faults ≤ V.faults + 1 ∧ (V.free b).made = V.made := by
  unfold AV.free
  cases V.find b with
  | none => exact ⟨Int.le_refl _, rfl⟩
  | some _ => exact ⟨by show V.faults ≤ V.faults + 1; omega, rfl⟩
theorem alloc_f (V : AV) (n : Int) : (V.alloc n).faults = V.faults ∧ (V.alloc n).made ≤ V.made + 1 := by
  unfold AV.alloc
  split
  · exact ⟨rfl, Int.le_refl _⟩
  · exact ⟨rfl, by omega⟩
theorem stepV_f (V : AV) (T : TV) (O : OV) : (stepV V T O).faults ≤ V.faults + 1 ∧ (stepV V T O).made ≤ V.made + 1 := by
  have h0 : V.faults ≤ V.faults + 1 ∧ V.made ≤ V.made + 1 := by omega
  have h1 := touch_f V T.block
  have h2 := touch_f V O.at_
  have h3 := store_f V T.block 0 (V.addVal T.block 0 1)
  have h4 := alloc_f V 1
  have h5 := store_f V O.node 0 O.first
  have h6 := swap_f V T.block O.cell O.first O.node
  have h7 := free_f V O.node
  have h8 := store_f V T.block 0 (V.addVal T.block 0 (-1))
  unfold stepV lookV lastV AV.add
  repeat' split
  all_goals omega
theorem St.calm_of {s : St} {k : Nat} (h1 : s.V.faults + k < 1000000000000000) (h2 : s.V.made + k < 1000000000000000) : s.Calm k := by
  have key : ∀ j, (s.iter j).V.faults ≤ s.V.faults + j ∧ (s.iter j).V.made ≤ s.V.made + j := by
    intro j
    induction j with
    | zero => exact ⟨by show s.V.faults ≤ _; omega, by show s.V.made ≤ _; omega⟩
    | succ j ih =>
      have := stepV_f (s.iter j).V (s.iter j).T (s.iter j).O
      show (stepV (s.iter j).V (s.iter j).T (s.iter j).O).faults ≤ _ ∧ (stepV (s.iter j).V (s.iter j).T (s.iter j).O).made ≤ _
      omega
  intro j hj
  have := key j
  omega
/-! ### known -/
def knownN : List ByteArray → List Int → ByteArray → Int
  | n :: ns, i :: is, s => if n.toList = s.toList then i else knownN ns is s
  | _, _, _ => 0
theorem knownN_at {ns : List ByteArray} {is : List Int} {s : ByteArray} {i : Nat} (hl : ns.length = is.length) (hi : i < ns.length) (h : ns[i].toList = s.toList) (hb : ∀ j (hj : j < i), (ns[j]'(by omega)).toList ≠ s.toList) : knownN ns is s = is[i]'(by omega) := by
  induction ns generalizing is i with
  | nil => simp at hi
  | cons n ns ih =>
    cases is with
    | nil => simp at hl
    | cons x is =>
      cases i with
      | zero => unfold knownN; rw [if_pos (by simpa using h)]; rfl
      | succ i =>
        have h0 := hb 0 (by omega)
        unfold knownN
        rw [if_neg (by simpa using h0)]
        have := ih (is := is) (i := i) (by simpa using hl) (by simpa using hi) (by simpa using h) (fun j hj => by have := hb (j + 1) (by omega); simpa using this)
        simpa using this
theorem knownN_none {ns : List ByteArray} {is : List Int} {s : ByteArray} (hb : ∀ j (hj : j < ns.length), ns[j].toList ≠ s.toList) : knownN ns is s = 0 := by
  induction ns generalizing is with
  | nil => unfold knownN; rfl
  | cons n ns ih =>
    cases is with
    | nil => unfold knownN; rfl
    | cons x is =>
      have h0 := hb 0 (by simp)
      unfold knownN
      rw [if_neg (by simpa using h0)]
      exact ih fun j hj => by have := hb (j + 1) (by simpa using hj); simpa using this
def KnInv (ns : List ByteArray) (s : ByteArray) (w1 : World) (g : Nat) (iv : Value) (w : World) : Prop := ∃ i : Nat, iv = .int .i64 i ∧ i + g = ns.length ∧ (∀ j (hj : j < ns.length), j < i → ns[j].toList ≠ s.toList) ∧ w = w1
set_option maxHeartbeats 2000000 in
theorem known_any {w : World} {own : Nat → Nat} {k k2 : Nat} {v v2 : Value} {ns : List ByteArray} {is : List Int} (hr : Row w own k 9 1 v ns.length (srow ns)) (hr2 : Row w own k2 3 1 v2 is.length (irow is)) (hl : ns.length = is.length) (hm : ns.length ≤ 1000000) (s : ByteArray) :
    Calls Try.prog 12 #[v, v2, .string s] w fun e w' => e = .returned (.int .i64 (knownN ns is s)) ∧ w' = w := by
  obtain ⟨ra, rc, rfl⟩ := hr.shape
  obtain ⟨ra2, rc2, rfl⟩ := hr2.shape
  have HLL := Lib.hid hl
  rw [← hl] at hr2 ⊢
  have HR := Lib.hid hr
  have HR2 := Lib.hid hr2
  clear hr hr2 hl
  go_enter Try.func12, Try.ntmps12
  go_wp2_with fail
  go_loopg [10] ns.length (fun g iv wr => KnInv ns s w g iv wr)
  case atStart => exact ⟨0, rfl, by omega, fun j _ hj => by omega, rfl⟩
  case round =>
    obtain ⟨i, rfl, hi, hno, rfl⟩ := hrel
    have HN := Lib.hid hno
    clear hno
    by_cases hlt : i < ns.length
    · have hlt2 : (i : Int) < ns.length := by omega
      obtain ⟨g1, rfl, hg, _, hx, hc⟩ := Row.srow_at HR.out hlt
      obtain ⟨g2, rfl, hg2, _, _, hx2, hc2⟩ := Row.irow_at HR2.out hlt
      by_cases he : ns[i].toList = s.toList
      · have b1 : (ns[i].toList == s.toList) = true := by simp [he]
        have HK := Lib.hid (knownN_at HLL.out hlt he (fun j hj => HN.out j (by omega) hj))
        clear he
        generalize ns[i] = x at *
        generalize is[i] = y at *
        go_wp2_with fail
        go_ret
        exact ⟨by rw [HK.out]; rfl, rfl⟩
      · have b1 : (ns[i].toList == s.toList) = false := by simp [he]
        have HN2 := Lib.hid (show ∀ j (hj : j < ns.length), j < i + 1 → ns[j].toList ≠ s.toList from fun j hj hji => by
          by_cases hjl : j < i
          · exact HN.out j hj hjl
          · obtain rfl : j = i := by omega
            exact he)
        clear he
        generalize ns[i] = x at *
        generalize is[i] = y at *
        go_wp2_with fail
        go_roundg (ns.length - (i + 1))
        case measure => omega
        case rel => exact ⟨i + 1, by go_num, by omega, HN2.out, rfl⟩
    · obtain rfl : i = ns.length := by omega
      have HK := Lib.hid (knownN_none (is := is) (fun j hj => HN.out j hj hj))
      go_wp2_with fail
      go_ret
      exact ⟨by rw [HK.out]; rfl, rfl⟩
/-! ### alive -/
def aV0 : AV := (AV.fresh 100).alloc 3
def aT0 : TV := TV.fresh 1 2 9
def bA : ByteArray := ⟨#[97]⟩
def bB : ByteArray := ⟨#[98]⟩
def bC : ByteArray := ⟨#[99]⟩
def sA : St := St.iter ⟨aV0, aT0, OV.begin_ aT0 bA⟩ 12
def sB : St := St.iter ⟨sA.V, sA.T, OV.begin_ sA.T bB⟩ 12
def sC : St := St.iter ⟨sB.V, sB.T, OV.begin_ sB.T bA⟩ 12
structure Pr where
  V : AV
  T : TV
  O : OV
  P : OV
def Pr.step (s : Pr) : Pr :=
  ⟨stepV (stepV s.V s.T s.O) (stepT s.V s.T s.O) s.P, stepT (stepV s.V s.T s.O) (stepT s.V s.T s.O) s.P, stepO s.V s.T s.O, stepO (stepV s.V s.T s.O) (stepT s.V s.T s.O) s.P⟩
def Pr.iter (s : Pr) : Nat → Pr
  | 0 => s
  | k + 1 => (s.iter k).step
theorem Pr.step_over {s : Pr} (h : s.O.next = 9) (h2 : s.P.next = 9) : s.step = s := by
  obtain ⟨V, T, O, P⟩ := s
  have h : O.next = 9 := h
  have h2 : P.next = 9 := h2
  unfold Pr.step stepV stepT stepO lastV lastT lastO
  simp [h, h2]
theorem Pr.iter_over {s : Pr} {j : Nat} (h : (s.iter j).O.next = 9) (h2 : (s.iter j).P.next = 9) : ∀ n, s.iter (j + n) = s.iter j
  | 0 => rfl
  | n + 1 => by
    show (s.iter (j + n)).step = _
    rw [Pr.iter_over h h2 n, Pr.step_over h h2]
theorem Pr.calm (s : Pr) (hf : s.V.faults ≤ 1000) (hm : s.V.made ≤ 1000) (j : Nat) : (s.iter j).V.faults ≤ 1000 + 2 * j ∧ (s.iter j).V.made ≤ 1000 + 2 * j := by
  induction j with
  | zero => exact ⟨by show s.V.faults ≤ _; omega, by show s.V.made ≤ _; omega⟩
  | succ j ih =>
    have h1 := stepV_f (s.iter j).V (s.iter j).T (s.iter j).O
    have h2 := stepV_f (stepV (s.iter j).V (s.iter j).T (s.iter j).O) (stepT (s.iter j).V (s.iter j).T (s.iter j).O) (s.iter j).P
    show (stepV (stepV (s.iter j).V (s.iter j).T (s.iter j).O) (stepT (s.iter j).V (s.iter j).T (s.iter j).O) (s.iter j).P).faults ≤ _ ∧ (stepV (stepV (s.iter j).V (s.iter j).T (s.iter j).O) (stepT (s.iter j).V (s.iter j).T (s.iter j).O) (s.iter j).P).made ≤ _
    omega
def pC : Pr := ⟨sC.V, sC.T, OV.begin_ sC.T bC, OV.begin_ sC.T bC⟩
def pD : Pr := pC.iter 30
def aLs : Nat → List Int
  | 1 => [3]
  | 2 => [4, 2]
  | _ => []
def AlInv (w0 : World) (a t o p : Nat) (g : Nat) (iv : Value) (w : World) : Prop :=
  ∃ (own : Nat → Nat) (i : Nat), iv = .int .i64 i ∧ i + g = 60 ∧ Arena w own 1 a (pC.iter i).V ∧ Table w own 2 t a (pC.iter i).T ∧ OpAt w own 3 o t (pC.iter i).O ∧ OpAt w own 4 p t (pC.iter i).P ∧ Ext (fun c => c ≠ 0) w0 w (fun _ => 0) own
theorem aTab : Tab pD.V pD.T aLs := by
  have hb0 : pD.T.buckets = 2 := by kernel_rfl
  refine ⟨⟨by rw [hb0]; decide, by rw [hb0]; decide⟩, ⟨[3, 3, 4], by kernel_rfl, by kernel_rfl, fun c h1 h2 => ?_⟩, fun c h1 h2 => ?_⟩
  all_goals
    have hb : pD.T.buckets = 2 := by kernel_rfl
    rw [hb] at h2
    obtain rfl | rfl : c = 1 ∨ c = 2 := by omega
  · rfl
  · rfl
  · exact ⟨by decide, by kernel_rfl, trivial⟩
  · exact ⟨by decide, by kernel_rfl, by decide, by kernel_rfl, trivial⟩
set_option maxHeartbeats 4000000 in
theorem alive3_any (w : World) : Calls Try.prog 5 #[] w fun e w' => e = .returned (.bool true) ∧ Below w.heap.size w w' := by
  have hpo : (pC.iter 60).O.next = 9 ∧ (pC.iter 60).P.next = 9 := ⟨by kernel_rfl, by kernel_rfl⟩
  have HPO := Lib.hid hpo
  clear hpo
  go_enter Try.func5, Try.ntmps5
  go_wp2_with fail
  refine (New_any 100 1 (fun _ => 0) w).mono ?_
  rintro e w1 ⟨rfl, hB, hA⟩
  have H1 := Lib.hid (Ext.of_below (M := fun c => c ≠ 0) hB (fun _ => 0) 1)
  generalize ow (fun _ => 0) w.heap.size 1 = own1 at *
  generalize w.heap.size + 1 = a at *
  clear hB
  go_wp2_with fail
  refine (TNew_any (kt := 2) hA (by decide) 2 9 (by kernel_rfl) (by decide)).mono ?_
  rintro e w2 ⟨t, own2, rfl, hE2, hA2, hT2⟩
  have H2 := Lib.hid (H1.out.trans (hE2.mono (M' := fun c => c ≠ 0) (by simp)))
  have hA2 : Arena w2 own2 1 a aV0 := hA2
  have hT2 : Table w2 own2 2 t a aT0 := hT2
  clear hE2 hA H1
  go_wp2_with fail
  refine (Intern_any hA2 hT2 (by decide) ⟨by decide, by decide⟩ bA (by decide) 12 (by decide) (by kernel_rfl) (St.calm_of (by decide) (by decide))).mono ?_
  rintro e w3 ⟨own3, rfl, hE3, hA3, hT3⟩
  have H3 := Lib.hid (H2.out.trans (hE3.mono (M' := fun c => c ≠ 0) (by intro c h; rcases h with rfl | rfl <;> decide)))
  have hA3 : Arena w3 own3 1 a sA.V := hA3
  have hT3 : Table w3 own3 2 t a sA.T := hT3
  rw [show (St.iter ⟨aV0, aT0, OV.begin_ aT0 bA⟩ 12).O.answer = .tuple #[.int .i64 2, .int .i64 0] by kernel_rfl]
  clear hE3 hA2 hT2 H2
  go_wp2_with fail
  refine (Intern_any hA3 hT3 (by decide) (show 1 ≤ sA.T.buckets ∧ sA.T.buckets ≤ 64 by rw [show sA.T.buckets = 2 by kernel_rfl]; decide) bB (by decide) 12 (by decide) (by kernel_rfl) (St.calm_of (by show sA.V.faults + _ < _; rw [show sA.V.faults = 0 by kernel_rfl]; decide) (by show sA.V.made + _ < _; rw [show sA.V.made = 2 by kernel_rfl]; decide))).mono ?_
  rintro e w4 ⟨own4, rfl, hE4, hA4, hT4⟩
  have H4 := Lib.hid (H3.out.trans (hE4.mono (M' := fun c => c ≠ 0) (by intro c h; rcases h with rfl | rfl <;> decide)))
  have hA4 : Arena w4 own4 1 a sB.V := hA4
  have hT4 : Table w4 own4 2 t a sB.T := hT4
  rw [show (St.iter ⟨sA.V, sA.T, OV.begin_ sA.T bB⟩ 12).O.answer = .tuple #[.int .i64 3, .int .i64 0] by kernel_rfl]
  clear hE4 hA3 hT3 H3
  go_wp2_with fail
  refine (Intern_any hA4 hT4 (by decide) (show 1 ≤ sB.T.buckets ∧ sB.T.buckets ≤ 64 by rw [show sB.T.buckets = 2 by kernel_rfl]; decide) bA (by decide) 12 (by decide) (by kernel_rfl) (St.calm_of (by show sB.V.faults + _ < _; rw [show sB.V.faults = 0 by kernel_rfl]; decide) (by show sB.V.made + _ < _; rw [show sB.V.made = 3 by kernel_rfl]; decide))).mono ?_
  rintro e w5 ⟨own5, rfl, hE5, hA5, hT5⟩
  have H5 := Lib.hid (H4.out.trans (hE5.mono (M' := fun c => c ≠ 0) (by intro c h; rcases h with rfl | rfl <;> decide)))
  have hA5 : Arena w5 own5 1 a sC.V := hA5
  have hT5 : Table w5 own5 2 t a sC.T := hT5
  rw [show (St.iter ⟨sB.V, sB.T, OV.begin_ sB.T bA⟩ 12).O.answer = .tuple #[.int .i64 2, .int .i64 0] by kernel_rfl]
  clear hE5 hA4 hT4 H4
  have hbk : 1 ≤ sC.T.buckets ∧ sC.T.buckets ≤ 64 := by rw [show sC.T.buckets = 2 by kernel_rfl]; decide
  have HBK := Lib.hid hbk
  clear hbk
  go_wp2_with fail
  refine (Begin_any (own := own5) hT5 HBK.out bC (by decide) 3).mono ?_
  rintro e w6 ⟨o, rfl, ho, hB, hO6⟩
  have hX : ∀ M, Ext M w5 w6 own5 (ow own5 w5.heap.size 3) := fun M => Ext.of_below hB own5 3
  have hA6 := hA5.ext (hX (fun _ => False)) (by simp)
  have hT6 := hT5.ext (hX (fun _ => False)) (by simp)
  have H6 := Lib.hid (H5.out.trans (hX _))
  clear hB hX hA5 hT5 H5 ho
  generalize ow own5 w5.heap.size 3 = own6 at *
  go_wp2_with fail
  refine (Begin_any (own := own6) hT6 HBK.out bC (by decide) 4).mono ?_
  rintro e w7 ⟨p, rfl, hp, hB, hP7⟩
  have hX : ∀ M, Ext M w6 w7 own6 (ow own6 w6.heap.size 4) := fun M => Ext.of_below hB own6 4
  have hA7 := hA6.ext (hX (fun _ => False)) (by simp)
  have hT7 := hT6.ext (hX (fun _ => False)) (by simp)
  have hO7 := hO6.ext (hX (fun _ => False)) (by simp)
  have H7 := Lib.hid (H6.out.trans (hX _))
  clear hB hX hA6 hT6 hO6 H6 hp
  generalize ow own6 w6.heap.size 4 = own7 at *
  go_wp2_with fail
  go_loopg [12] 60 (fun g iv wr => AlInv w a t o p g iv wr)
  case atStart => exact ⟨own7, 0, rfl, by omega, hA7, hT7, hO7, hP7, H7.out⟩
  case round =>
    clear hA7 hT7 hO7 hP7 H7
    obtain ⟨own, i, rfl, hi, hA, hT, hO, hP, hE⟩ := hrel
    have HE := Lib.hid hE
    have HA := Lib.hid hA
    have HT := Lib.hid hT
    have HO := Lib.hid hO
    have HP := Lib.hid hP
    clear hE hA hT hO hP
    have htail : pC.iter i = pD → True := fun _ => trivial
    clear htail
    by_cases hex : i < 60 ∧ ¬ ((pC.iter i).O.next = 9 ∧ (pC.iter i).P.next = 9)
    · obtain ⟨hlt, hno⟩ := hex
      have hlt2 : (i : Int) < 60 := by omega
      have hbb : ((pC.iter i).O.next == 9) = false ∨ (((pC.iter i).O.next == 9) = true ∧ ((pC.iter i).P.next == 9) = false) := by
        by_cases h9 : (pC.iter i).O.next = 9
        · exact .inr ⟨by simp [h9], by simp; exact fun h => hno ⟨h9, h⟩⟩
        · exact .inl (by simp [h9])
      have hcl := Pr.calm pC (by rw [show pC.V.faults = 0 by kernel_rfl]; decide) (by rw [show pC.V.made = 3 by kernel_rfl]; decide) i
      have HS1 := Lib.hid (Step_any HA.out HT.out HO.out (by decide) (by decide) (by decide) (by omega) (by omega))
      have HV1 := Lib.hid (Over_any HO.out)
      have HV2 := Lib.hid (Over_any HP.out)
      have hf1 := stepV_f (pC.iter i).V (pC.iter i).T (pC.iter i).O
      have HN := Lib.hid (show pC.iter (i + 1) = (pC.iter i).step from rfl)
      clear hno
      rcases hbb with b1 | ⟨b1, b2⟩
      all_goals
        go_wp2_with fail
        refine HV1.out.mono ?_
        rintro e w1 ⟨rfl, rfl⟩
        go_wp2_with fail
        try (
          refine HV2.out.mono ?_
          rintro e w1 ⟨rfl, rfl⟩
          go_wp2_with fail)
        refine HS1.out.mono ?_
        rintro e w2 ⟨rfl, own2, hE2, hA2, hT2, hO2⟩
        have hP2 := HP.out.ext hE2 (by decide)
        have HE2 := Lib.hid (HE.out.trans (hE2.mono (M' := fun c => c ≠ 0) (by intro c h; rcases h with rfl | rfl | rfl <;> decide)))
        have HO2 := Lib.hid hO2
        have HS2 := Lib.hid (Step_any hA2 hT2 hP2 (by decide) (by decide) (by decide) (by omega) (by omega))
        clear hE2 hA2 hT2 hP2 hO2 HS1 HV1 HV2 HA HT HO HP HE
        go_wp2_with fail
        refine HS2.out.mono ?_
        rintro e w3 ⟨rfl, own3, hE3, hA3, hT3, hP3⟩
        have hO3 := HO2.out.ext hE3 (by decide)
        have HE3 := Lib.hid (HE2.out.trans (hE3.mono (M' := fun c => c ≠ 0) (by intro c h; rcases h with rfl | rfl | rfl <;> decide)))
        clear hE3 HE2 HS2 HO2
        go_wp2_with fail
        go_roundg (60 - (i + 1))
        case measure => omega
        case rel => exact ⟨own3, i + 1, by go_num, by omega, by rw [HN.out]; exact hA3, by rw [HN.out]; exact hT3, by rw [HN.out]; exact hO3, by rw [HN.out]; exact hP3, HE3.out⟩
    · have hd : pC.iter 60 = pD := Pr.iter_over (s := pC) (j := 30) (by kernel_rfl) (by kernel_rfl) 30
      by_cases hlt : i < 60
      · have hlt2 : (i : Int) < 60 := by omega
        have hbo : (pC.iter i).O.next = 9 ∧ (pC.iter i).P.next = 9 := Classical.byContradiction fun h => hex ⟨hlt, h⟩
        have b1 : ((pC.iter i).O.next == 9) = true := by simp [hbo.1]
        have b2 : ((pC.iter i).P.next == 9) = true := by simp [hbo.2]
        have HPD := Lib.hid (show pC.iter i = pD by
          have := Pr.iter_over hbo.1 hbo.2 (60 - i)
          rw [show i + (60 - i) = 60 by omega, hd] at this
          exact this.symm)
        have HV1 := Lib.hid (Over_any HO.out)
        have HV2 := Lib.hid (Over_any HP.out)
        clear hbo hd hex
        go_wp2_with fail
        refine HV1.out.mono ?_
        rintro e w1 ⟨rfl, rfl⟩
        go_wp2_with fail
        refine HV2.out.mono ?_
        rintro e w1x ⟨rfl, rfl⟩
        clear HV1 HV2
        rw [HPD.out] at HA HT HO HP
        have HA9 := Lib.hid HA.out
        clear HA
        go_wp2_with fail
        refine (Answer_any HO.out).mono ?_
        rintro e w1 ⟨rfl, n1, rfl⟩
        rw [show pD.O.answer = .tuple #[.int .i64 4, .int .i64 0] by kernel_rfl]
        have hX : ∀ M, Ext M w1x (w1x.drewN n1) own own := fun M => Ext.refl.drewN n1
        have hA1 := HA9.out.ext (hX (fun _ => False)) (by simp)
        have hT1 := HT.out.ext (hX (fun _ => False)) (by simp)
        have hP1 := HP.out.ext (hX (fun _ => False)) (by simp)
        have H1 := Lib.hid (HE.out.trans (hX _))
        clear HA9 HT HO HP HE hX
        generalize w1x.drewN n1 = w11 at *
        go_wp2_with fail
        refine (Answer_any hP1).mono ?_
        rintro e w1 ⟨rfl, n2, rfl⟩
        rw [show pD.P.answer = .tuple #[.int .i64 4, .int .i64 0] by kernel_rfl]
        have hX : ∀ M, Ext M w11 (w11.drewN n2) own own := fun M => Ext.refl.drewN n2
        have hA2 := hA1.ext (hX (fun _ => False)) (by simp)
        have hT2 := hT1.ext (hX (fun _ => False)) (by simp)
        have H2 := Lib.hid (H1.out.trans (hX _))
        clear hA1 hT1 hP1 H1 hX
        generalize w11.drewN n2 = w12 at *
        have hfd : pD.V.faults < 1000000000000000 := by rw [show pD.V.faults = 0 by kernel_rfl]; decide
        have hbd : pD.T.buckets = (2 : Nat) := by kernel_rfl
        have hls : ∀ c, (aLs c).length ≤ 1000000 := by intro c; unfold aLs; split <;> simp
        go_wp2_with fail
        refine (Name_any hA2 hT2 (by decide) hfd aTab hbd hls 3).mono ?_
        rintro e w13 ⟨own3, rfl, hA3, hT3, hE3⟩
        rw [show nameRes pD.T aLs 3 2 = .tuple #[.string bB, .bool true] by kernel_rfl]
        have H3 := Lib.hid (H2.out.trans (hE3.mono (M' := fun c => c ≠ 0) (by simp)))
        have HLEN := Lib.hid (Len_any hA3 hT3 (by decide) hfd aTab hbd hls)
        clear hE3 hA2 hT2 H2 hA3 hT3
        unfold bB
        go_wp2_with fail
        refine HLEN.out.mono ?_
        rintro e w14 ⟨own4, rfl, hA4, hT4, hE4⟩
        rw [show totalN aLs 2 = 3 by rfl]
        have H4 := Lib.hid (H3.out.trans (hE4.mono (M' := fun c => c ≠ 0) (by simp)))
        clear hE4 hA4 hT4 H3 HLEN
        go_wp2_with fail
        go_ret
        exact ⟨by simp, H4.out.below (by simp)⟩
      · obtain rfl : i = 60 := by omega
        have HPD := Lib.hid hd
        clear hd hex
        rw [HPD.out] at HA HT HO HP
        have HA9 := Lib.hid HA.out
        clear HA
        go_wp2_with fail
        refine (Answer_any HO.out).mono ?_
        rintro e w1 ⟨rfl, n1, rfl⟩
        rw [show pD.O.answer = .tuple #[.int .i64 4, .int .i64 0] by kernel_rfl]
        have hX : ∀ M, Ext M wr (wr.drewN n1) own own := fun M => Ext.refl.drewN n1
        have hA1 := HA9.out.ext (hX (fun _ => False)) (by simp)
        have hT1 := HT.out.ext (hX (fun _ => False)) (by simp)
        have hP1 := HP.out.ext (hX (fun _ => False)) (by simp)
        have H1 := Lib.hid (HE.out.trans (hX _))
        clear HA9 HT HO HP HE hX
        generalize wr.drewN n1 = w11 at *
        go_wp2_with fail
        refine (Answer_any hP1).mono ?_
        rintro e w1 ⟨rfl, n2, rfl⟩
        rw [show pD.P.answer = .tuple #[.int .i64 4, .int .i64 0] by kernel_rfl]
        have hX : ∀ M, Ext M w11 (w11.drewN n2) own own := fun M => Ext.refl.drewN n2
        have hA2 := hA1.ext (hX (fun _ => False)) (by simp)
        have hT2 := hT1.ext (hX (fun _ => False)) (by simp)
        have H2 := Lib.hid (H1.out.trans (hX _))
        clear hA1 hT1 hP1 H1 hX
        generalize w11.drewN n2 = w12 at *
        have hfd : pD.V.faults < 1000000000000000 := by rw [show pD.V.faults = 0 by kernel_rfl]; decide
        have hbd : pD.T.buckets = (2 : Nat) := by kernel_rfl
        have hls : ∀ c, (aLs c).length ≤ 1000000 := by intro c; unfold aLs; split <;> simp
        go_wp2_with fail
        refine (Name_any hA2 hT2 (by decide) hfd aTab hbd hls 3).mono ?_
        rintro e w13 ⟨own3, rfl, hA3, hT3, hE3⟩
        rw [show nameRes pD.T aLs 3 2 = .tuple #[.string bB, .bool true] by kernel_rfl]
        have H3 := Lib.hid (H2.out.trans (hE3.mono (M' := fun c => c ≠ 0) (by simp)))
        have HLEN := Lib.hid (Len_any hA3 hT3 (by decide) hfd aTab hbd hls)
        clear hE3 hA2 hT2 H2 hA3 hT3
        unfold bB
        go_wp2_with fail
        refine HLEN.out.mono ?_
        rintro e w14 ⟨own4, rfl, hA4, hT4, hE4⟩
        rw [show totalN aLs 2 = 3 by rfl]
        have H4 := Lib.hid (H3.out.trans (hE4.mono (M' := fun c => c ≠ 0) (by simp)))
        clear hE4 hA4 hT4 H3 HLEN
        go_wp2_with fail
        go_ret
        exact ⟨by simp, H4.out.below (by simp)⟩
end Go.Proofs.Ytkfinhakhhiabaa
