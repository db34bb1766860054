/- Layer 3: Len, Name, New, Intern. -/
import Derived.Test.YtkfinhakhhiabaaAtomsTab
set_option maxRecDepth 20000
set_option linter.unusedVariables false
set_option linter.unusedSimpArgs false
namespace Go.Proofs.Ytkfinhakhhiabaa
open Go.RowKit Go.PM

def totalN (ls : Nat → List Int) : Nat → Nat
  | 0 => 0
  | k + 1 => totalN ls k + (ls (k + 1)).length
def anyIn (ls : Nat → List Int) (id : Int) : Nat → Bool
  | 0 => false
  | k + 1 => anyIn ls id k || (ls (k + 1)).contains id
def LenInv (w0 : World) (own0 : Nat → Nat) (ka kt t a : Nat) (V : AV) (T : TV) (ls : Nat → List Int) (nb : Nat) (g : Nat) (nv iv : Value) (w : World) : Prop :=
  ∃ (own : Nat → Nat) (i : Nat), iv = .int .i64 i ∧ i + g = nb ∧ nv = .int .i64 (totalN ls i : Nat) ∧ Arena w own ka a V ∧ Table w own kt t a T ∧ Ext (fun c => c = ka) w0 w own0 own
section
variable {w : World} {own : Nat → Nat} {ka kt ko a t o : Nat} {V : AV} {T : TV} {O : OV} {ls : Nat → List Int} {nb : Nat}
theorem totalN_le (h : ∀ c, (ls c).length ≤ 1000000) : ∀ k, totalN ls k ≤ k * 1000000
  | 0 => by simp [totalN]
  | k + 1 => by
    have := totalN_le h k
    have := h (k + 1)
    show totalN ls k + (ls (k + 1)).length ≤ _
    omega
theorem Len_any (hA : Arena w own ka a V) (hT : Table w own kt t a T) (hat : ka ≠ kt) (hf : V.faults < 1000000000000000) (hS : Tab V T ls) (hnb : T.buckets = nb) (hl : ∀ c, (ls c).length ≤ 1000000) :
    Calls Try.prog 14 #[.pointer (some ⟨t, 0, none⟩)] w fun e w' => ∃ own', e = .returned (.int .i64 (totalN ls nb : Nat)) ∧ Arena w' own' ka a V ∧ Table w' own' kt t a T ∧ Ext (fun c => c = ka) w w' own own' := by
  have hb := hS.bk
  obtain ⟨mb, clock, Ln, hT1⟩ := hT
  obtain ⟨t0, t1, t2, t3, t4⟩ := five_t hT1.root
  have HT := Lib.hid (show Table w own kt t a T from ⟨mb, clock, Ln, hT1⟩)
  have HS := Lib.hid hS
  have HL := Lib.hid hl
  have htl := totalN_le hl
  have HTL := Lib.hid htl
  rw [hnb] at t2 hb
  clear hT1 hS hl htl
  go_enter Try.func14, Try.ntmps14
  go_wp2_with fail
  go_loopg [3, 9] nb (fun g nv iv wr => LenInv w own ka kt t a V T ls nb g nv iv wr)
  case atStart => exact ⟨own, 0, rfl, by omega, rfl, hA, HT.out, Ext.refl⟩
  case round =>
    clear hA HT t0 t1 t2 t3 t4
    obtain ⟨own2, i, rfl, hi, rfl, hA, hT, hE⟩ := hrel
    have HE := Lib.hid hE
    clear hE
    by_cases hlt : i < nb
    · have hlt2 : (i : Int) < nb := by omega
      have h1 := HTL.out i
      have h2 := HL.out (i + 1)
      obtain ⟨e1, e2, e3⟩ := HS.out.head (c := i + 1) (by omega) (by rw [hnb]; omega)
      have hch := HS.out.chain (i + 1) (by omega) (by rw [hnb]; omega)
      have hli := listed_any hA hT hat hf (i + 1) (ls (i + 1)) (by omega) e1 e3 hch 3
      have hcast : ((i + 1 : Nat) : Int) = (i : Int) + 1 := by omega
      rw [hcast] at hli
      have HLI := Lib.hid hli
      have HSUM := Lib.hid (show totalN ls (i + 1) = totalN ls i + (ls (i + 1)).length from rfl)
      have HTT := Lib.hid hT
      clear e1 e2 e3 hch hA hT hcast hli
      generalize ls (i + 1) = l at *
      generalize totalN ls i = n0 at *
      go_wp2_with fail
      refine HLI.out.mono ?_
      rintro e w3 ⟨v, own3, rfl, hr3, hA3, hE3⟩
      obtain ⟨ra, rc, rfl⟩ := hr3.shape
      have hT3 := HTT.out.ext hE3 (fun h => hat h.symm)
      have HE3 := Lib.hid (HE.out.trans hE3)
      clear hE3 hr3 HLI HTT
      go_wp2_with fail
      go_roundg (nb - (i + 1))
      case measure => omega
      case rel => exact ⟨own3, i + 1, by go_num, by omega, by rw [HSUM.out]; go_num, hA3, hT3, HE3.out⟩
    · obtain rfl : i = nb := by omega
      go_wp2_with fail
      go_ret
      exact ⟨own2, rfl, hA, hT, HE.out⟩
/-! ### Name -/
def nameRes (T : TV) (ls : Nat → List Int) (id : Int) (nb : Nat) : Value := if anyIn ls id nb then .tuple #[.string (T.nm id), .bool true] else .tuple #[.string ByteArray.empty, .bool false]
def NmOut (w0 : World) (own0 : Nat → Nat) (ka kt t a : Nat) (V : AV) (T : TV) (ls : Nat → List Int) (id : Int) (nb : Nat) (g : Nat) (iv : Value) (w : World) : Prop :=
  ∃ (own : Nat → Nat) (i : Nat), iv = .int .i64 i ∧ i + g = nb ∧ anyIn ls id i = false ∧ Arena w own ka a V ∧ Table w own kt t a T ∧ Ext (fun c => c = ka) w0 w own0 own
def NmIn (l : List Int) (id : Int) (w1 : World) (g : Nat) (jv : Value) (w : World) : Prop := ∃ j : Nat, jv = .int .i64 j ∧ j + g = l.length ∧ (l.take j).contains id = false ∧ w = w1
theorem anyIn_mono (ls : Nat → List Int) (id : Int) : ∀ (k n : Nat), k ≤ n → anyIn ls id k = true → anyIn ls id n = true
  | k, 0, h, hk => by
    obtain rfl : k = 0 := by omega
    exact hk
  | k, n + 1, h, hk => by
    by_cases he : k = n + 1
    · subst he; exact hk
    · show (anyIn ls id n || _) = true
      rw [anyIn_mono ls id k n (by omega) hk]; rfl
set_option maxHeartbeats 2000000 in
theorem Name_any (hA : Arena w own ka a V) (hT : Table w own kt t a T) (hat : ka ≠ kt) (hf : V.faults < 1000000000000000) (hS : Tab V T ls) (hnb : T.buckets = nb) (hl : ∀ c, (ls c).length ≤ 1000000) (id : Int) :
    Calls Try.prog 15 #[.pointer (some ⟨t, 0, none⟩), .int .i64 id] w fun e w' => ∃ own', e = .returned (nameRes T ls id nb) ∧
      Arena w' own' ka a V ∧ Table w' own' kt t a T ∧ Ext (fun c => c = ka) w w' own own' := by
  have hb := hS.bk
  obtain ⟨mb, clock, Ln, hT1⟩ := hT
  obtain ⟨t0, t1, t2, t3, t4⟩ := five_t hT1.root
  have HT := Lib.hid (show Table w own kt t a T from ⟨mb, clock, Ln, hT1⟩)
  have HS := Lib.hid hS
  have HL := Lib.hid hl
  rw [hnb] at t2 hb
  clear hT1 hS hl
  have HRES := Lib.hid (show ∀ i, i ≤ nb → anyIn ls id i = true → anyIn ls id nb = true from fun i hi h => anyIn_mono ls id i nb hi h)
  go_enter Try.func15, Try.ntmps15
  go_wp2_with fail
  go_loopg [13] nb (fun g iv wr => NmOut w own ka kt t a V T ls id nb g iv wr)
  case atStart => exact ⟨own, 0, rfl, by omega, rfl, hA, HT.out, Ext.refl⟩
  case round =>
    clear hA HT t0 t1 t2 t3 t4
    obtain ⟨own2, i, rfl, hi, hno, hA, hT, hE⟩ := hrel
    have HE := Lib.hid hE
    have HNO := Lib.hid hno
    clear hE hno
    by_cases hlt : i < nb
    · have hlt2 : (i : Int) < nb := by omega
      have h2 := HL.out (i + 1)
      obtain ⟨e1, e2, e3⟩ := HS.out.head (c := i + 1) (by omega) (by rw [hnb]; omega)
      have hch := HS.out.chain (i + 1) (by omega) (by rw [hnb]; omega)
      have hli := listed_any hA hT hat hf (i + 1) (ls (i + 1)) (by omega) e1 e3 hch 3
      have hcast : ((i + 1 : Nat) : Int) = (i : Int) + 1 := by omega
      rw [hcast] at hli
      have HLI := Lib.hid hli
      have HAN := Lib.hid (show anyIn ls id (i + 1) = (anyIn ls id i || (ls (i + 1)).contains id) from rfl)
      have HTT := Lib.hid hT
      clear e1 e2 e3 hch hA hT hcast hli
      generalize ls (i + 1) = l at *
      go_wp2_with fail
      refine HLI.out.mono ?_
      rintro e w3 ⟨v, own3, rfl, hr3, hA3, hE3⟩
      obtain ⟨ra, rc, rfl⟩ := hr3.shape
      have hT3 := HTT.out.ext hE3 (fun h => hat h.symm)
      have HE3 := Lib.hid (HE.out.trans hE3)
      have HR3 := Lib.hid hr3
      have HA3 := Lib.hid hA3
      have HT3 := Lib.hid hT3
      clear hE3 hr3 hA3 hT3 HLI HTT HE
      go_wp2_with fail
      go_loopg [21] l.length (fun g jv wr => NmIn l id w3 g jv wr)
      case atStart => exact ⟨0, rfl, by omega, by simp, rfl⟩
      case round =>
        obtain ⟨j, rfl, hj, hnj, rfl⟩ := hrel
        have HNJ := Lib.hid hnj
        clear hnj
        by_cases hjl : j < l.length
        · have hjl2 : (j : Int) < l.length := by omega
          obtain ⟨gl, rfl, hg, _, _, hx, hc⟩ := Row.irow_at HR3.out hjl
          have HTK := Lib.hid (List.take_succ_eq_append_getElem hjl)
          have HMM := Lib.hid (List.getElem_mem hjl)
          obtain ⟨mb, clock, Ln, hT1⟩ := HT3.out
          obtain ⟨t0, t1, t2, t3, t4⟩ := five_t hT1.root
          have hlk := hT1.look l[j]
          clear hT1
          generalize l[j] = x at *
          by_cases hxi : x = id
          · have b1 : (x == id) = true := by simp [hxi]
            have hin : anyIn ls id nb = true := HRES.out (i + 1) (by omega) (by rw [HAN.out, show l.contains id = true by rw [← hxi]; simpa using HMM.out, Bool.or_true])
            have HR := Lib.hid (show nameRes T ls id nb = .tuple #[.string (T.nm x), .bool true] by unfold nameRes; rw [if_pos hin, hxi])
            clear hxi hin
            go_wp2_with fail
            go_ret2
            exact ⟨own3, by rw [HR.out]; rfl, HA3.out, HT3.out, HE3.out⟩
          · have b1 : (x == id) = false := by simp [hxi]
            have HNN := Lib.hid (show (l.take (j + 1)).contains id = false by
              rw [HTK.out, List.contains_eq_mem]
              have h1 := HNJ.out
              rw [List.contains_eq_mem] at h1
              simp only [decide_eq_false_iff_not] at h1 ⊢
              intro hm
              rcases List.mem_append.1 hm with hm | hm
              · exact h1 hm
              · rw [List.mem_singleton] at hm; exact hxi hm.symm)
            clear hxi hlk
            go_wp2_with fail
            go_roundg (l.length - (j + 1))
            case measure => omega
            case rel => exact ⟨j + 1, by go_num, by omega, HNN.out, rfl⟩
        · obtain rfl : j = l.length := by omega
          have HN2 := Lib.hid (show anyIn ls id (i + 1) = false by
            have h1 := HNJ.out
            rw [List.take_length] at h1
            rw [HAN.out, HNO.out, h1]; rfl)
          go_wp2_with fail
          go_roundg (nb - (i + 1))
          case measure => omega
          case rel => exact ⟨own3, i + 1, by go_num, by omega, HN2.out, HA3.out, HT3.out, HE3.out⟩
    · obtain rfl : i = nb := by omega
      have HR := Lib.hid (show nameRes T ls id i = .tuple #[.string ByteArray.empty, .bool false] by unfold nameRes; rw [HNO.out]; rfl)
      go_wp2_with fail
      go_ret2
      exact ⟨own2, by rw [HR.out]; rfl, hA, hT, HE.out⟩
end
end Go.Proofs.Ytkfinhakhhiabaa
