/- AtomsAlone: one operation at a time answers as a plain table. -/
import Derived.Test.YtkfinhakhhiabaaAtomsAlonePure
import Derived.Test.YtkfinhakhhiabaaInts
import Derived.Test.YtkfinhakhhiabaaAtomsFree
set_option maxRecDepth 20000
set_option linter.unusedVariables false
set_option linter.unusedSimpArgs false
namespace Go.Proofs.Ytkfinhakhhiabaa
open Go.RowKit Go.PM
section
variable {w : World} {own : Nat → Nat} {ka kt ko a t o : Nat} {V : AV} {T : TV} {O : OV} {ls : Nat → List Int} {nb : Nat}
theorem Name_in (hA : Arena w own ka a V) (hT : Table w own kt t a T) (hat : ka ≠ kt) (hf : V.faults < 1000000000000000) (hS : Tab V T ls) (hnb : T.buckets = nb) (hl : totalN ls nb ≤ 1000000) (id : Int) (c : Nat) (h1 : 1 ≤ c) (h2 : c ≤ nb) (hm : id ∈ ls c) :
    Calls Try.prog 15 #[.pointer (some ⟨t, 0, none⟩), .int .i64 id] w fun e w' => ∃ own', e = .returned (.tuple #[.string (T.nm id), .bool true]) ∧ Arena w' own' ka a V ∧ Table w' own' kt t a T ∧ Ext (fun c => c = ka) w w' own own' := by
  have hc : ∀ c : Nat, 1 ≤ c → (c : Int) ≤ T.buckets → cutL ls nb c = ls c := fun c h1 h2 => by unfold cutL; rw [if_pos (by omega)]
  have := Name_any hA hT hat hf (ls := cutL ls nb) ⟨hS.bk, ?_, fun c h1 h2 => by rw [hc c h1 h2]; exact hS.chain c h1 h2⟩ hnb (fun c => ?_) id
  · rwa [show nameRes T (cutL ls nb) id nb = .tuple #[.string (T.nm id), .bool true] by unfold nameRes; rw [anyIn_of _ id nb c h1 h2 (by rw [hc c h1 (by omega)]; exact hm)]; rfl] at this
  · obtain ⟨xs, h1, h2, h3⟩ := hS.root
    exact ⟨xs, h1, h2, fun c q1 q2 => by rw [hc c q1 q2]; exact h3 c q1 q2⟩
  · unfold cutL
    split
    · rename_i h
      have := totalN_ge ls nb c h.1 h.2
      omega
    · exact Nat.zero_le _
end
theorem Al.faults {T : TV} {ls : Nat → List Int} {s : ByteArray} {c : Nat} {n lv : Int} {st : St} {p : Nat} (h : Al T ls s c n lv st p) : st.V.faults = 0 := by
  cases h with
  | start h | head h | walk h | reserve h | back h | make h | lay h | publish h | long h | hit h | full h | made h => exact h.faults
theorem fresh_all (b m : Int) : (AV.fresh 65536).allocErr (min (max b 1) 64 + 1) = 0 ∧ Tab ((AV.fresh 65536).alloc (min (max b 1) 64 + 1)) (TV.fresh 1 b m) (fun _ => []) ∧ ((AV.fresh 65536).alloc (min (max b 1) 64 + 1)).faults = 0 ∧ ((AV.fresh 65536).alloc (min (max b 1) 64 + 1)).made = 1 ∧
    ((AV.fresh 65536).alloc (min (max b 1) 64 + 1)).val 1 0 = 0 ∧ ((AV.fresh 65536).alloc (min (max b 1) 64 + 1)).live ≤ 0 + 65 ∧ ((AV.fresh 65536).alloc (min (max b 1) 64 + 1)).most = 65536 := by
  obtain ⟨h1, h2, h3, h4⟩ := fresh_tab b
  have hT : Tab ((AV.fresh 65536).alloc (min (max b 1) 64 + 1)) (TV.fresh 1 b m) (fun _ => []) := ⟨h2.bk, h2.root, fun _ _ _ => trivial⟩
  have hb1 : 1 ≤ min (max b 1) 64 ∧ min (max b 1) 64 ≤ 64 := by omega
  refine ⟨h1, hT, h3, h4, ?_, ?_, ?_⟩
  · have hf : ((AV.fresh 65536).alloc (min (max b 1) 64 + 1)).find 1 = some (List.replicate (min (max b 1) 64 + 1).toNat 0) := by
      unfold AV.alloc
      rw [if_pos h1]
      rfl
    have := (AV.val_at hf (i := 0) (by rw [List.length_replicate]; omega)).1
    have this : ((AV.fresh 65536).alloc (min (max b 1) 64 + 1)).val 1 0 = _ := this
    rw [this, List.getD_eq_getElem?_getD, List.getElem?_replicate]
    split <;> rfl
  · have e : ((AV.fresh 65536).alloc (min (max b 1) 64 + 1)).live = 0 + (min (max b 1) 64 + 1) := by unfold AV.alloc; rw [if_pos h1]; rfl
    rw [e]; omega
  · unfold AV.alloc; rw [if_pos h1]; rfl
theorem fresh_tot : ∀ nb, totalN (fun _ => ([] : List Int)) nb = 0
  | 0 => rfl
  | nb + 1 => by show totalN _ nb + 0 = 0; rw [fresh_tot nb]
theorem Al.final {T : TV} {ls : Nat → List Int} {s : ByteArray} {c : Nat} {n lv : Int} {st : St} (h : Al T ls s c n lv st 0) :
    (st.T = T ∧ Va st.V T ls n lv ∧ ((st.O.id = 0 ∧ st.O.err = 2 ∧ 64 < s.size) ∨ (st.O.id ∈ ls c ∧ st.O.err = 0 ∧ (T.nm st.O.id).toList = s.toList ∧ s.size ≤ 64) ∨ (st.O.id = 0 ∧ st.O.err = 3 ∧ Unk T (ls c) s ∧ s.size ≤ 64 ∧ T.most < n + 1))) ∨
    (∃ x, st.T = T.put x s ∧ Va st.V (T.put x s) (push ls c x) (n + 1) (lv + 1) ∧ st.O.id = x ∧ st.O.err = 0 ∧ Unk T (ls c) s ∧ s.size ≤ 64 ∧ n + 1 ≤ T.most ∧ 0 < x ∧ ∀ e : Nat, 1 ≤ e → (e : Int) ≤ T.buckets → x ∉ ls e) := by
  generalize hp : (0 : Nat) = p at h
  cases h with
  | start | head | walk | reserve | back | make | lay | publish => omega
  | long h1 h2 h3 h4 h5 => exact .inl ⟨rfl, h1, .inl ⟨h3, h4, h5⟩⟩
  | hit h1 h2 h3 h4 h5 h6 => exact .inl ⟨rfl, h1, .inr (.inl ⟨h3, h4, h5, h6⟩)⟩
  | full h1 h2 h3 h4 h5 h6 h7 => exact .inl ⟨rfl, h1, .inr (.inr ⟨h3, h4, h5, h6, h7⟩)⟩
  | made h1 h2 h3 h4 h5 h6 h7 h8 h9 => exact .inr ⟨_, rfl, h1, h3, h4, h5, h6, h7, h8, h9⟩
def AaK (w0 : World) (a t o : Nat) (T : TV) (ls : Nat → List Int) (s : ByteArray) (c : Nat) (seen : List ByteArray) (ids : List Int) (sv iv : Value) (tot M : Nat) (g : Nat) (kv : Value) (w : World) : Prop :=
  ∃ (own : Nat → Nat) (st : St) (p k : Nat), kv = .int .i64 k ∧ k + g = tot ∧ p ≤ g ∧ Al T ls s c seen.length (seen.length + 65) st p ∧ st.V.made + g ≤ M + tot ∧ Arena w own 1 a st.V ∧ Table w own 2 t a st.T ∧ OpAt w own 5 o t st.O ∧
    Row w own 3 9 1 sv seen.length (srow seen) ∧ Row w own 4 3 1 iv ids.length (irow ids) ∧ Ext (fun c => c ≠ 0) w0 w (fun _ => 0) own
def AaO (w0 : World) (a t nb n : Nat) (top : Int) (g : Nat) (sv iv xv : Value) (w : World) : Prop :=
  ∃ (own : Nat → Nat) (i : Nat) (ls : Nat → List Int) (V : AV) (T : TV) (seen : List ByteArray) (ids : List Int), xv = .int .i64 i ∧ i + g = n ∧ Va V T ls seen.length (seen.length + 65) ∧ T.buckets = nb ∧ T.most = top ∧ Kn T ls nb seen ids ∧
    seen.length ≤ min i 301 ∧ V.made ≤ 1 + 700 * (min i 301 : Nat) ∧ Arena w own 1 a V ∧ Table w own 2 t a T ∧
    Row w own 3 9 1 sv seen.length (srow seen) ∧ Row w own 4 3 1 iv ids.length (irow ids) ∧ Ext (fun c => c ≠ 0) w0 w (fun _ => 0) own
def AaN (w0 : World) (a t : Nat) (V : AV) (T : TV) (seen : List ByteArray) (ids : List Int) (sv iv : Value) (g : Nat) (xv : Value) (w : World) : Prop :=
  ∃ (own : Nat → Nat) (i : Nat), xv = .int .i64 i ∧ i + g = seen.length ∧ Arena w own 1 a V ∧ Table w own 2 t a T ∧
    Row w own 3 9 1 sv seen.length (srow seen) ∧ Row w own 4 3 1 iv ids.length (irow ids) ∧ Ext (fun c => c ≠ 0) w0 w (fun _ => 0) own
set_option maxHeartbeats 4000000 in
theorem atomsAlone_walk (w : World) (buckets : Int) (hbk : -9223372036854775808 ≤ buckets ∧ buckets ≤ 9223372036854775807) (most : Int) (hmo : -9223372036854775808 ≤ most ∧ most ≤ 9223372036854775807) (v1 : Value) (n1 b1 off1 : Nat) (f1 : Nat → ByteArray) (hs1 : SRecs Try.prog 22 w v1 n1 b1 off1 f1) :
    Calls Try.prog 3 #[.int .i64 buckets, .int .i64 most, v1] w fun e w' => e = .returned (.bool true) ∧ Below w.heap.size w w' := by
  have hlen1 := hs1.len
  have hidx1 := hs1.idx
  have hsz1 := hs1.size
  have hmx := run_max
  have hmn := run_min
  go_enter Try.func3, Try.ntmps3
  go_wp2_with fail
  refine (alive3_any w).mono ?_
  rintro e w1 ⟨rfl, hB⟩
  have H1 := Lib.hid (Ext.of_below (M := fun c => c ≠ 0) hB (fun _ => 0) 1)
  generalize ow (fun _ => 0) w.heap.size 1 = own1 at *
  clear hB
  go_wp2_with fail
  refine (New_any 65536 1 own1 w1).mono ?_
  rintro e w2 ⟨rfl, hB, hA⟩
  have H2 := Lib.hid (H1.out.trans (Ext.of_below hB own1 1))
  generalize ow own1 w1.heap.size 1 = own2 at *
  generalize w1.heap.size + 1 = a at *
  clear hB H1
  obtain ⟨f1e, f1t, f1f, f1m, f1v, f1l, f1o⟩ := fresh_all buckets most
  go_wp2_with fail
  refine (TNew_any (kt := 2) hA (by decide) buckets most f1e (by decide)).mono ?_
  rintro e w3 ⟨t, own3, rfl, hE3, hA3, hT3⟩
  have H3 := Lib.hid (H2.out.trans (hE3.mono (M' := fun c => c ≠ 0) (by simp)))
  obtain ⟨nb, hnb⟩ : ∃ nb : Nat, (TV.fresh ((AV.fresh 65536).made + 1) buckets most).buckets = nb := ⟨(min (max buckets 1) 64).toNat, by show min (max buckets 1) 64 = _; omega⟩
  have hnb64 : 1 ≤ nb ∧ nb ≤ 64 := by have : min (max buckets 1) 64 = (nb : Int) := hnb; omega
  have htp : (TV.fresh ((AV.fresh 65536).made + 1) buckets most).most = min (max most 0) 4096 := rfl
  have HVA := Lib.hid (show Va _ (TV.fresh ((AV.fresh 65536).made + 1) buckets most) _ ((([] : List ByteArray).length : Nat) : Int) _ from ⟨f1t, f1f, f1v, f1l, f1o⟩)
  have HKN := Lib.hid (show Kn (TV.fresh ((AV.fresh 65536).made + 1) buckets most) (fun _ => []) nb [] [] from ⟨rfl, fun j h => absurd h (Nat.not_lt_zero _), fun j h => absurd h (Nat.not_lt_zero _), fun c _ _ x h => (nomatch h), fresh_tot nb, fun i j h => absurd h (Nat.not_lt_zero _)⟩)
  clear hE3 hA H2 f1e f1t f1f f1v f1l f1o
  generalize (AV.fresh 65536).alloc (min (max buckets 1) 64 + 1) = V3 at *
  generalize TV.fresh ((AV.fresh 65536).made + 1) buckets most = T3 at *
  generalize (fun _ : Nat => ([] : List Int)) = ls3 at *
  have HTP := Lib.hid htp
  clear htp
  go_wp2_with fail
  clear hmx hmn
  have hX1 : ∀ (M : Nat → Prop) (o1 : Obj), Ext M w3 (w3.alloc o1) own3 (ow own3 w3.heap.size 3) := fun M o1 => (Ext.refl.ow 3).alloc o1
  have hX2 : ∀ (M : Nat → Prop) (o1 o2 : Obj), Ext M (w3.alloc o1) ((w3.alloc o1).alloc o2) (ow own3 w3.heap.size 3) (ow (ow own3 w3.heap.size 3) (w3.alloc o1).heap.size 4) := fun M o1 o2 => (Ext.refl.ow 4).alloc o2
  go_loopg [11, 12, 48] n1 (fun g sv iv xv wr => AaO w a t nb n1 (min (max most 0) 4096) g sv iv xv wr)
  case atStart =>
    refine ⟨_, 0, ls3, V3, T3, [], [], rfl, by omega, HVA.out, hnb, HTP.out, HKN.out, Nat.zero_le _, by omega, (hA3.ext (hX1 (fun _ => False) _) (by simp)).ext (hX2 (fun _ => False) _ _) (by simp), (hT3.ext (hX1 (fun _ => False) _) (by simp)).ext (hX2 (fun _ => False) _ _) (by simp), ?_, ?_, (H3.out.trans (hX1 _ _)).trans (hX2 _ _ _)⟩
    · have : Row (w3.alloc (.cells #[] 9)) (ow own3 w3.heap.size 3) 3 9 1 (.slice (some ⟨w3.heap.size, 0, none⟩) 0 0) 0 [] := ⟨rfl, .inr ⟨w3.heap.size, 0, #[], rfl, Blk.new w3 _ (ow_ge (Nat.le_refl _)), Nat.le_refl _, by unfold maxLen; decide, rfl, rfl⟩⟩
      exact this.ext (hX2 (fun _ => False) _ _) (by simp)
    · exact ⟨rfl, .inr ⟨(w3.alloc (.cells #[] 9)).heap.size, 0, #[], by rw [World.size_alloc]; rfl, Blk.new (w3.alloc _) _ (ow_ge (Nat.le_refl _)), Nat.le_refl _, by unfold maxLen; decide, rfl, rfl⟩⟩
  case round =>
    clear hX1 hX2 hA3 hT3 H3 HVA HKN HTP hnb f1m
    obtain ⟨own, i, ls, V, T, seen, ids, rfl, hi, hva, hbn, htm, hkn, hsl, hvm, hA, hT, hr1, hr2, hE⟩ := hrel
    have HE := Lib.hid hE
    have HVA := Lib.hid hva
    have HKN := Lib.hid hkn
    have HBN := Lib.hid hbn
    have HTM := Lib.hid htm
    have hkl := hkn.len
    have HKL := Lib.hid hkl
    have hs301 : seen.length ≤ 301 := by omega
    have hsi : seen.length ≤ i := by omega
    obtain ⟨ra, rc, rfl⟩ := hr1.shape
    obtain ⟨ra2, rc2, rfl⟩ := hr2.shape
    clear hE hva hkn hbn htm hkl hsl
    by_cases hgo : i < n1 ∧ i ≤ 300
    · obtain ⟨hlt, h300⟩ := hgo
      have hlt2 : (i : Int) < n1 := by omega
      have h3002 : ¬ 300 < (i : Int) := by omega
      have c1 := hs1.at_ (HE.out.below (by simp)) hlt
      have hsz := hs1.str i hlt
      generalize f1 i = s at *
      have hbk2 := HVA.out.tab.bk
      have hcr := cellN_range (nb := nb) (by omega) s
      have hclen := totalN_ge ls nb (cellN nb s) hcr.1 (by omega)
      rw [HKN.out.tot] at hclen
      have HBG := Lib.hid (Begin_any (own := own) hT hbk2 s hsz 5)
      have HAL := Lib.hid (show Al T ls s (cellN nb s) seen.length (seen.length + 65) ⟨V, T, OV.begin_ T s⟩ _ from .start HVA.out rfl (by show 1 + hashN T.buckets s.data.toList = _; rw [HBN.out]; exact hcr.2.2) rfl rfl rfl rfl)
      have hc1 := hcr.1
      have hc2 := hcr.2.1
      clear hcr hbk2
      obtain ⟨c, hce⟩ : ∃ c, c = cellN nb s := ⟨_, rfl⟩
      rw [← hce] at HAL hclen hc1 hc2
      have HCE := Lib.hid hce
      clear hce
      generalize OV.begin_ T s = O0 at *
      go_wp2_with fail
      refine HBG.out.mono ?_
      rintro e w4 ⟨o, rfl, ho, hB, hO4⟩
      have hX : ∀ M, Ext M wr w4 own (ow own wr.heap.size 5) := fun M => Ext.of_below hB own 5
      have hA4 := hA.ext (hX (fun _ => False)) (by simp)
      have hT4 := hT.ext (hX (fun _ => False)) (by simp)
      have hr14 := hr1.ext (hX (fun _ => False)) (by simp)
      have hr24 := hr2.ext (hX (fun _ => False)) (by simp)
      have HE4 := Lib.hid (HE.out.trans (hX _))
      clear hX hB HE HBG hA hT hr1 hr2 ho
      generalize ow own wr.heap.size 5 = own4 at *
      go_wp2_with fail
      obtain ⟨G, hG⟩ : ∃ G, G = gk := ⟨_, rfl⟩
      have HG := Lib.hid hG
      rw [← hG] at hi
      clear hG
      obtain ⟨tot, htot⟩ : ∃ tot, tot = 2 * seen.length + 16 := ⟨_, rfl⟩
      have HTOT := Lib.hid htot
      have hmd0 : V.made + tot ≤ (1 + 700 * i : Nat) + tot := by omega
      clear htot
      go_loopg [16] tot (fun g kv wq => AaK w a t o T ls s c seen ids (.slice ra seen.length rc) (.slice ra2 ids.length rc2) tot (1 + 700 * i) g kv wq)
      case atStart => exact ⟨own4, _, _, 0, rfl, by omega, by have := HTOT.out; omega, HAL.out, hmd0, hA4, hT4, hO4, hr14, hr24, HE4.out⟩
      case round =>
        clear hA4 hT4 hO4 hr14 hr24 HE4 HAL hmd0
        obtain ⟨own5, st, p, k, rfl, hk, hp, hal, hmd, hA, hT, hO, hr1, hr2, hE⟩ := hrel
        have HE := Lib.hid hE
        have hfa := hal.faults
        have htt := HTOT.out
        have hmd2 : st.V.made ≤ 1000000 := by omega
        clear hE
        by_cases hkt : k < tot
        · have hkt2 : (k : Int) < 2 * seen.length + 16 := by omega
          have HNX : Hid (∃ p', p' + 1 ≤ gk ∧ Al T ls s c seen.length (seen.length + 65) st.step p') := Lib.hid (by
            by_cases h9 : st.O.next = 9
            · refine ⟨0, by omega, ?_⟩
              have h0 := hal.zero.1 h9
              rw [St.step_over h9, ← h0]
              exact hal
            · obtain ⟨p', h1, h2⟩ := hal.step hA.ok h9 hc1 (by rw [HBN.out]; exact hc2) (by omega) (by omega)
              exact ⟨p', by omega, h2⟩)
          have hsf := stepV_f st.V st.T st.O
          have HST := Lib.hid (Step_any hA hT hO (by decide) (by decide) (by decide) (by omega) (by omega))
          have e1 : stepV st.V st.T st.O = st.step.V := rfl
          have e2 : stepT st.V st.T st.O = st.step.T := rfl
          have e3 : stepO st.V st.T st.O = st.step.O := rfl
          rw [e1, e2, e3] at HST
          rw [e1] at hsf
          have HM : Hid (st.step.V.made + (gk - 1 : Nat) ≤ (1 + 700 * i : Nat) + tot) := Lib.hid (by omega)
          clear hA hT hO e1 e2 e3 hal hsf hmd htt
          generalize st.step = st2 at *
          go_wp2_with fail
          refine HST.out.mono ?_
          rintro e w5 ⟨rfl, own6, hE6, hA6, hT6, hO6⟩
          have hr16 := hr1.ext hE6 (by decide)
          have hr26 := hr2.ext hE6 (by decide)
          have HE6 := Lib.hid (HE.out.trans (hE6.mono (M' := fun c => c ≠ 0) (by intro c h; omega)))
          clear hE6 hr1 hr2 HE HST
          go_wp2_with fail
          go_roundg (gk - 1)
          case measure => omega
          case rel =>
            obtain ⟨p', h1, h2⟩ := HNX.out
            exact ⟨own6, st2, p', k + 1, by go_num, by omega, by omega, h2, HM.out, hA6, hT6, hO6, hr16, hr26, HE6.out⟩
        · obtain rfl : k = tot := by omega
          have hp0 : p = 0 := by omega
          subst hp0
          have hkt3 : ¬ (k : Int) < 2 * seen.length + 16 := by omega
          have h9 := hal.zero.2 rfl
          have HANS := Lib.hid (Answer_any hO)
          rw [show st.O.answer = .tuple #[.int .i64 st.O.id, .int .i64 st.O.err] by unfold OV.answer; rw [if_pos h9]] at HANS
          have b9 : (st.O.next == 9) = true := by simp [h9]
          have HFIN := Lib.hid hal.final
          have hmd3 : st.V.made ≤ 1 + 700 * (i + 1 : Nat) := by omega
          clear h9 hal hmd hmd2
          go_wp2_with fail
          refine HANS.out.mono ?_
          rintro e w5 ⟨rfl, n5, rfl⟩
          have hX : ∀ M, Ext M wr (wr.drewN n5) own5 own5 := fun M => Ext.refl.drewN n5
          have hA5 := hA.ext (hX (fun _ => False)) (by simp)
          have hT5 := hT.ext (hX (fun _ => False)) (by simp)
          have hO5 := hO.ext (hX (fun _ => False)) (by simp)
          have hr15 := hr1.ext (hX (fun _ => False)) (by simp)
          have hr25 := hr2.ext (hX (fun _ => False)) (by simp)
          have HE5 := Lib.hid (HE.out.trans (hX _))
          clear hX hA hT hO hr1 hr2 HE HANS
          generalize wr.drewN n5 = w55 at *
          have HOV := Lib.hid (Over_any hO5)
          have HKA := Lib.hid (known_any hr15 hr25 HKL.out (by omega) s)
          go_wp2_with fail
          refine HOV.out.mono ?_
          rintro e w6 ⟨rfl, rfl⟩
          go_wp2_with fail
          refine HKA.out.mono ?_
          rintro e w7 ⟨rfl, rfl⟩
          clear HOV HKA hO5
          rcases HFIN.out with ⟨hTe, hVa, hcase⟩ | ⟨x, hTe, hVa, hid, her, hun, hsz64, hle, hx0, hxn⟩
          · rw [hTe] at hT5
            have HVA2 := Lib.hid hVa
            have hcase2 : (st.O.id = 0 ∧ st.O.err = 2 ∧ 64 < (s.size : Int)) ∨ (0 < st.O.id ∧ st.O.err = 0 ∧ knownN seen ids s = st.O.id ∧ ¬ 64 < (s.size : Int)) ∨ (st.O.id = 0 ∧ st.O.err = 3 ∧ knownN seen ids s = 0 ∧ ¬ 64 < (s.size : Int) ∧ min (max most 0) 4096 ≤ (seen.length : Int)) := by
              rcases hcase with ⟨q1, q2, q3⟩ | ⟨q1, q2, q3, q4⟩ | ⟨q1, q2, q3, q4, q5⟩
              · exact .inl ⟨q1, q2, by omega⟩
              · exact .inr (.inl ⟨((HVA.out.tab.chain c hc1 (by rw [HBN.out]; exact hc2)).at_ _ q1).1, q2, HKN.out.hit hc1 (by omega) q1 q3, by omega⟩)
              · refine .inr (.inr ⟨q1, q2, knownN_none (HKN.out.unk ?_), by omega, by have := HTM.out; omega⟩)
                rw [← HCE.out]; exact q3
            have HLEN := Lib.hid (Len_in hA5 hT5 (by decide) (by have := hVa.faults; omega) hVa.tab HBN.out (by have := HKN.out.tot; omega))
            rw [HKN.out.tot] at HLEN
            clear hVa hcase hTe HFIN hA5 hT5
            generalize st.O.id = id0 at *
            generalize st.O.err = er0 at *
            generalize knownN seen ids s = kn0 at *
            rcases hcase2 with ⟨q1, q2, q3⟩ | ⟨q1, q2, q3, q4⟩ | ⟨q1, q2, q3, q4, q5⟩
            all_goals
              go_wp2_with fail
              refine HLEN.out.mono ?_
              rintro e w8 ⟨own8, rfl, hA8, hT8, hE8⟩
              have hr18 := hr15.ext hE8 (by decide)
              have hr28 := hr25.ext hE8 (by decide)
              have HE8 := Lib.hid (HE5.out.trans (hE8.mono (M' := fun c => c ≠ 0) (by intro c h; subst h; decide)))
              clear hE8 HE5 HLEN
              go_wp2_with fail
              go_roundg (n1 - (i + 1))
              case measure => have := HG.out; omega
              case rel => exact ⟨own8, i + 1, ls, st.V, T, seen, ids, by go_num, by omega, HVA2.out, HBN.out, HTM.out, HKN.out, by omega, by omega, hA8, hT8, hr18, hr28, HE8.out⟩
          · rw [hTe] at hT5
            rw [HCE.out] at hun hVa
            have hxn2 : ∀ e : Nat, 1 ≤ e → e ≤ nb → x ∉ ls e := fun e h1 h2 => hxn e h1 (by rw [HBN.out]; omega)
            obtain ⟨hkn2, hcon⟩ := HKN.out.grow hnb64.1 hun hxn2
            have hk0 : knownN seen ids s = 0 := knownN_none (HKN.out.unk hun)
            rw [hk0]
            have hle2 : ¬ min (max most 0) 4096 ≤ (seen.length : Int) := by have := HTM.out; omega
            have hsz65 : ¬ 64 < (s.size : Int) := by omega
            have hx1 : ¬ x < 1 := by omega
            obtain ⟨i0, hi0, _, hz1, _⟩ := parts_intL
            obtain ⟨bI, hI⟩ := Ints.of_row Try.underlying30 hi0 hz1 hr25
            have HHAS := Lib.hid (Has_any hI (by have := HKL.out; omega) x)
            rw [hcon] at HHAS
            have hVa2 : Va st.V (T.put x s) (push ls (cellN nb s) x) ((seen ++ [s]).length : Nat) (((seen ++ [s]).length : Nat) + 65) := by
              have e : (((seen ++ [s]).length : Nat) : Int) = seen.length + 1 := by simp
              rw [e, show (seen.length : Int) + 1 + 65 = seen.length + 65 + 1 by omega]
              exact hVa
            have HVA2 := Lib.hid hVa2
            have HKN2 := Lib.hid hkn2
            have hf0 := hVa.faults
            clear hVa hVa2 hkn2 hTe HFIN hI hxn hxn2 hcon hk0 hun hi0 hz1
            rw [hid, her]
            have hn3 : seen.length ≤ 4000000000000 := by omega
            have hn4 : ids.length ≤ 7000000000000 := by have := HKL.out; omega
            go_wp2_with fail
            refine HHAS.out.mono ?_
            rintro e w8 ⟨rfl, rfl⟩
            go_wp2_with (first | (at_builtin; refine wpList_append_srow rfl _ _ rfl s rfl hr15 hn3 rfl (by simp) ?_; intro v8 w8 own8 hr18 hE8; have hr28 := hr25.ext hE8 (by decide)) | (at_builtin; refine wpList_append_irow rfl _ _ rfl x rfl hr28 hn4 rfl (by simp) ?_; intro v9 w9 own9 hr29 hE9))
            have hA9 := (hA5.ext hE8 (by decide)).ext hE9 (by decide)
            have hT9 := (hT5.ext hE8 (by decide)).ext hE9 (by decide)
            have hr19 := hr18.ext hE9 (by decide)
            have HE9 := Lib.hid ((HE5.out.trans (hE8.mono (M' := fun c => c ≠ 0) (by intro c h; subst h; decide))).trans (hE9.mono (M' := fun c => c ≠ 0) (by intro c h; subst h; decide)))
            obtain ⟨ra5, rc5, rfl⟩ := hr19.shape
            obtain ⟨ra6, rc6, rfl⟩ := hr29.shape
            clear hE8 hE9 hA5 hT5 hr15 hr25 hr18 hr28 HE5
            refine (Len_in hA9 hT9 (by decide) (by omega) HVA2.out.tab (show (T.put x s).buckets = nb from HBN.out) (by have h1 := HKN2.out.tot; rw [List.length_append, List.length_singleton] at h1; omega)).mono ?_
            rintro e w10 ⟨own10, rfl, hA10, hT10, hE10⟩
            rw [HKN2.out.tot, List.length_append, List.length_singleton]
            have hr110 := hr19.ext hE10 (by decide)
            have hr210 := hr29.ext hE10 (by decide)
            have HE10 := Lib.hid (HE9.out.trans (hE10.mono (M' := fun c => c ≠ 0) (by intro c h; subst h; decide)))
            clear hE10 hA9 hT9 hr19 hr29 HE9
            go_wp2_with fail
            go_roundg (n1 - (i + 1))
            case measure => have := HG.out; omega
            case rel => exact ⟨own10, i + 1, _, st.V, T.put x s, seen ++ [s], ids ++ [x], by go_num, by omega, HVA2.out, HBN.out, HTM.out, HKN2.out, by rw [List.length_append, List.length_singleton]; omega, by omega, hA10, hT10, by rw [List.length_append, List.length_singleton]; exact hr110, by rw [List.length_append, List.length_singleton]; exact hr210, HE10.out⟩
    · by_cases hlt : i < n1
      · have hlt2 : (i : Int) < n1 := by omega
        have h3002 : 300 < (i : Int) := by omega
        have c1 := hs1.at_ (HE.out.below (by simp)) hlt
        generalize f1 i = s at *
        go_wp2_with fail
        go_loopg [136] seen.length (fun g xv wq => AaN w a t V T seen ids (.slice ra seen.length rc) (.slice ra2 ids.length rc2) g xv wq)
        case atStart => exact ⟨own, 0, rfl, by omega, hA, hT, hr1, hr2, HE.out⟩
        case round =>
          clear hA hT hr1 hr2 HE
          obtain ⟨own2, j, rfl, hj, hA, hT, hr1, hr2, hE⟩ := hrel
          have HE := Lib.hid hE
          clear hE
          have hf0 := HVA.out.faults
          by_cases hjs : j < seen.length
          · have hj2 : (j : Int) < seen.length := by omega
            have hj3 : j < ids.length := by have := HKL.out; omega
            have hj4 : (j : Int) < ids.length := by omega
            have hnm := HKN.out.nm j hjs
            have hcr := cellN_range (nb := nb) (by omega) seen[j]
            have HNM := Lib.hid (Name_in hA hT (by decide) (by omega) HVA.out.tab HBN.out (by have := HKN.out.tot; omega) ids[j] (cellN nb seen[j]) hcr.1 (by omega) (HKN.out.mem j hjs))
            rw [hnm] at HNM
            have HR1 := Lib.hid hr1
            have HR2 := Lib.hid hr2
            obtain ⟨g2, hg2, _, _, _, hx2, hc2⟩ := Row.irow_at hr2 hj3
            subst hg2
            have HJS := Lib.hid hjs
            clear hnm hcr hA hT hr1 hr2
            go_wp2_with fail
            refine HNM.out.mono ?_
            rintro e w5 ⟨own5, rfl, hA5, hT5, hE5⟩
            have hr15 := HR1.out.ext hE5 (by decide)
            have hr25 := HR2.out.ext hE5 (by decide)
            have HE5 := Lib.hid (HE.out.trans (hE5.mono (M' := fun c => c ≠ 0) (by intro c h; subst h; decide)))
            obtain ⟨g1, hg1, _, _, hx1, hc1⟩ := Row.srow_at hr15 HJS.out
            subst hg1
            clear hE5 HNM HR1 HR2 HE hc2
            by_cases h60 : j < 60
            · have h602 : (j : Int) < 60 := by omega
              go_wp2_with fail
              go_roundg (seen.length - (j + 1))
              case measure => omega
              case rel => exact ⟨own5, j + 1, by go_num, by omega, hA5, hT5, hr15, hr25, HE5.out⟩
            · have h602 : ¬ (j : Int) < 60 := by omega
              go_wp2_with fail
              go_roundg (seen.length - (j + 1))
              case measure => omega
              case rel => exact ⟨own5, j + 1, by go_num, by omega, hA5, hT5, hr15, hr25, HE5.out⟩
          · have hj0 : ¬ (j : Int) < seen.length := by omega
            have HF := Lib.hid (Faults_any hA)
            have hb0 : (V.faults == 0) = true := by simp [hf0]
            clear hA hT hr1 hr2
            go_wp2_with fail
            refine HF.out.mono ?_
            rintro e w6 ⟨rfl, rfl⟩
            go_wp2_with fail
            go_ret
            exact ⟨by simp, HE.out.below (by simp)⟩
      · have hlt2 : ¬ (i : Int) < n1 := by omega
        go_wp2_with fail
        go_loopg [136] seen.length (fun g xv wq => AaN w a t V T seen ids (.slice ra seen.length rc) (.slice ra2 ids.length rc2) g xv wq)
        case atStart => exact ⟨own, 0, rfl, by omega, hA, hT, hr1, hr2, HE.out⟩
        case round =>
          clear hA hT hr1 hr2 HE
          obtain ⟨own2, j, rfl, hj, hA, hT, hr1, hr2, hE⟩ := hrel
          have HE := Lib.hid hE
          clear hE
          have hf0 := HVA.out.faults
          by_cases hjs : j < seen.length
          · have hj2 : (j : Int) < seen.length := by omega
            have hj3 : j < ids.length := by have := HKL.out; omega
            have hj4 : (j : Int) < ids.length := by omega
            have hnm := HKN.out.nm j hjs
            have hcr := cellN_range (nb := nb) (by omega) seen[j]
            have HNM := Lib.hid (Name_in hA hT (by decide) (by omega) HVA.out.tab HBN.out (by have := HKN.out.tot; omega) ids[j] (cellN nb seen[j]) hcr.1 (by omega) (HKN.out.mem j hjs))
            rw [hnm] at HNM
            have HR1 := Lib.hid hr1
            have HR2 := Lib.hid hr2
            obtain ⟨g2, hg2, _, _, _, hx2, hc2⟩ := Row.irow_at hr2 hj3
            subst hg2
            have HJS := Lib.hid hjs
            clear hnm hcr hA hT hr1 hr2
            go_wp2_with fail
            refine HNM.out.mono ?_
            rintro e w5 ⟨own5, rfl, hA5, hT5, hE5⟩
            have hr15 := HR1.out.ext hE5 (by decide)
            have hr25 := HR2.out.ext hE5 (by decide)
            have HE5 := Lib.hid (HE.out.trans (hE5.mono (M' := fun c => c ≠ 0) (by intro c h; subst h; decide)))
            obtain ⟨g1, hg1, _, _, hx1, hc1⟩ := Row.srow_at hr15 HJS.out
            subst hg1
            clear hE5 HNM HR1 HR2 HE hc2
            by_cases h60 : j < 60
            · have h602 : (j : Int) < 60 := by omega
              go_wp2_with fail
              go_roundg (seen.length - (j + 1))
              case measure => omega
              case rel => exact ⟨own5, j + 1, by go_num, by omega, hA5, hT5, hr15, hr25, HE5.out⟩
            · have h602 : ¬ (j : Int) < 60 := by omega
              go_wp2_with fail
              go_roundg (seen.length - (j + 1))
              case measure => omega
              case rel => exact ⟨own5, j + 1, by go_num, by omega, hA5, hT5, hr15, hr25, HE5.out⟩
          · have hj0 : ¬ (j : Int) < seen.length := by omega
            have HF := Lib.hid (Faults_any hA)
            have hb0 : (V.faults == 0) = true := by simp [hf0]
            clear hA hT hr1 hr2
            go_wp2_with fail
            refine HF.out.mono ?_
            rintro e w6 ⟨rfl, rfl⟩
            go_wp2_with fail
            go_ret
            exact ⟨by simp, HE.out.below (by simp)⟩
end Go.Proofs.Ytkfinhakhhiabaa
