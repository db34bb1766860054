/- SchedKeys: a Wake of one key wakes just those that wait for it. -/
import Derived.Test.YtemibcglhbjaoaaSchedPure
import Derived.Deep.LoopGhost
set_option maxRecDepth 20000
set_option linter.unusedVariables false
set_option linter.unusedSimpArgs false
namespace Go.Proofs.Ytemibcglhbjaoaa
open Go.RowKit Go.PM

/-! ### plain facts: the threads as the statement makes them -/
def ent (K E : List Int) (i : Nat) : Int × Int := if E.contains ((i : Int) + 1) then (3, 0) else if h : i < K.length then (2, K[i]) else (1, 0)
def ents (K E : List Int) (i : Nat) : List (Int × Int) := (List.range i).map (ent K E)
def kv (K E : List Int) (i : Nat) : SV := ⟨8, (0, 0) :: ents K E i, 0, 0⟩
def kmid (K E : List Int) (i : Nat) : SV := ⟨8, (0, 0) :: (ents K E i ++ [(1, 0)]), 0, 0⟩
def wkf (key : Int) (p : Int × Int) : Int × Int := if wakes key p then (1, p.2) else p
def kwant (K E : List Int) (key : Int) (i : Nat) : List Int := readyFrom ((ents K E i).map (wkf key)) 1
def kcount (K E : List Int) (key : Int) (j : Nat) : Nat := (((ents K E 8).take j).filter (wakes key)).length
section
variable {K E : List Int} {key : Int} {i : Nat}
theorem ents_length : (ents K E i).length = i := by simp [ents]
theorem ents_succ : ents K E (i + 1) = ents K E i ++ [ent K E i] := by simp [ents, List.range_succ]
theorem ent_nonzero (j : Nat) : ((ent K E j).1 != 0) = true := by
  unfold ent
  split
  · rfl
  · split <;> rfl
theorem kv_zero : kv K E 0 = SV.fresh 8 := by
  simp only [kv, ents, SV.fresh, List.range_zero, List.map_nil]
  rfl
theorem kv_live : (kv K E i).live = i := by
  have h : (ents K E i).filter (fun p => p.1 != 0) = ents K E i := by
    rw [List.filter_eq_self]
    intro p hp
    obtain ⟨j, _, rfl⟩ := List.mem_map.1 hp
    exact ent_nonzero j
  simp only [SV.live, kv, List.filter_cons, h]
  simp [ents_length]
theorem kv_spawn (hi : i < 8) : (kv K E i).spawnErr = 0 ∧ (kv K E i).spawnId = (i : Int) + 1 ∧ (kv K E i).spawn = kmid K E i := by
  have he : (kv K E i).spawnErr = 0 := by
    unfold SV.spawnErr
    rw [if_neg]
    rw [kv_live]
    simp only [kv]
    omega
  refine ⟨he, ?_, ?_⟩
  · unfold SV.spawnId
    rw [if_pos he]
    simp [kv, ents_length]
  · unfold SV.spawn
    rw [if_pos he]
    simp [kv, kmid]
theorem kv_full : (kv K E 8).spawnErr = 3 := by
  unfold SV.spawnErr
  rw [if_pos]
  rw [kv_live]
  simp [kv]
theorem kmid_err : (kmid K E i).err ((i : Int) + 1) 1 = 0 := by
  have hs : (kmid K E i).state ((i + 1 : Nat) : Int) = 1 := by
    rw [SV.state_in (by omega) (by simp [kmid, ents_length])]
    simp [kmid, ents_length]
  rw [show ((i : Int) + 1) = ((i + 1 : Nat) : Int) by omega]
  exact SV.err_hit (by rw [hs]; decide) hs
theorem kmid_put (x : Int × Int) : (kmid K E i).put ((i : Int) + 1) x = ⟨8, (0, 0) :: (ents K E i ++ [x]), 0, 0⟩ := by
  have h1 : ((i : Int) + 1).toNat = i + 1 := by omega
  simp only [SV.put, kmid, h1, List.set_cons_succ]
  rw [List.set_append_right _ _ (by rw [ents_length]; omega)]
  simp [ents_length]
theorem kmid_end (h : E.contains ((i : Int) + 1) = true) : (kmid K E i).end_ ((i : Int) + 1) = kv K E (i + 1) := by
  have hk : (kmid K E i).key ((i : Int) + 1) = 0 := by
    have h1 : ((i : Int) + 1).toNat = i + 1 := by omega
    simp only [SV.key, kmid, h1]
    simp [ents_length]
  unfold SV.end_
  rw [if_pos kmid_err, hk, kmid_put]
  simp only [kv, ents_succ, ent, h, if_true]
theorem kmid_block (h : E.contains ((i : Int) + 1) = false) (hi : i < K.length) : (kmid K E i).block ((i : Int) + 1) K[i] = kv K E (i + 1) := by
  unfold SV.block
  rw [if_pos kmid_err, kmid_put]
  simp only [kv, ents_succ, ent, h, Bool.false_eq_true, if_false, dif_pos hi]
theorem kmid_none (h : E.contains ((i : Int) + 1) = false) (hi : ¬ i < K.length) : kmid K E i = kv K E (i + 1) := by
  simp only [kmid, kv, ents_succ, ent, h, Bool.false_eq_true, if_false, dif_neg hi]
theorem kwant_succ : kwant K E key (i + 1) = if (wkf key (ent K E i)).1 = 1 then kwant K E key i ++ [(i : Int) + 1] else kwant K E key i := by
  simp only [kwant, ents_succ, List.map_append, List.map_cons, List.map_nil, readyFrom_append, List.length_map, ents_length, readyFrom]
  split
  · congr 2; omega
  · simp
theorem kwant_le : (kwant K E key i).length ≤ i := by
  refine Nat.le_trans (readyFrom_length _ _) ?_
  simp [ents_length]
theorem wkf_end (h : E.contains ((i : Int) + 1) = true) : ¬ (wkf key (ent K E i)).1 = 1 := by
  have : ent K E i = (3, 0) := by unfold ent; rw [if_pos h]
  rw [this]
  simp [wkf, wakes]
theorem wkf_hit (h : E.contains ((i : Int) + 1) = false) (hi : i < K.length) (hk : K[i] = key) : (wkf key (ent K E i)).1 = 1 := by
  simp only [ent, h, Bool.false_eq_true, if_false, dif_pos hi, hk]
  simp [wkf, wakes]
theorem wkf_other (h : E.contains ((i : Int) + 1) = false) (hi : i < K.length) (hk : K[i] ≠ key) : ¬ (wkf key (ent K E i)).1 = 1 := by
  simp only [ent, h, Bool.false_eq_true, if_false, dif_pos hi]
  simp [wkf, wakes, hk]
theorem wkf_ready (h : E.contains ((i : Int) + 1) = false) (hi : ¬ i < K.length) : (wkf key (ent K E i)).1 = 1 := by
  simp only [ent, h, Bool.false_eq_true, if_false, dif_neg hi]
  simp [wkf, wakes]
theorem kv_ready : ((kv K E 8).wake key).ready = kwant K E key 8 := by
  simp only [SV.ready, SV.wake, kv, List.map_cons, kwant]
  rw [show (if wakes key (0, 0) then ((1 : Int), ((0 : Int), (0 : Int)).2) else (0, 0)) = (0, 0) by simp [wakes]]
  rw [readyFrom, if_neg (by decide)]
  rfl
theorem kcount_hit {j : Nat} (hj : j < 8) : kcount K E key (j + 1) = kcount K E key j + if wakes key (ent K E j) then 1 else 0 := by
  have hl : j < (ents K E 8).length := by rw [ents_length]; exact hj
  simp only [kcount]
  rw [List.take_succ_eq_append_getElem hl, List.filter_append, List.length_append]
  have : (ents K E 8)[j] = ent K E j := by simp [ents]
  rw [this]
  cases h : wakes key (ent K E j) <;> simp [h]
theorem kcount_same {j : Nat} (hj : 8 ≤ j) : kcount K E key (j + 1) = kcount K E key j := by
  simp only [kcount]
  rw [List.take_of_length_le (by rw [ents_length]; omega), List.take_of_length_le (by rw [ents_length]; omega)]
theorem kcount_le (j : Nat) : kcount K E key j ≤ 8 := by
  refine Nat.le_trans (List.length_filter_le _ _) ?_
  rw [List.length_take, ents_length]
  omega
theorem ent_wakes {j : Nat} (hj : j < K.length) : wakes key (ent K E j) = (K[j] == key && !E.contains ((j : Int) + 1)) := by
  unfold ent
  by_cases h : E.contains ((j : Int) + 1) = true
  · rw [if_pos h, h]; simp [wakes]
  · rw [if_neg h, dif_pos hj]
    have : E.contains ((j : Int) + 1) = false := by simpa using h
    rw [this]
    simp [wakes]
theorem kcount_past {j : Nat} (hj : K.length ≤ j) : kcount K E key (j + 1) = kcount K E key j := by
  by_cases h8 : j < 8
  · rw [kcount_hit h8]
    have : wakes key (ent K E j) = false := by
      unfold ent
      split
      · simp [wakes]
      · rw [dif_neg (by omega)]; simp [wakes]
    rw [this]
    rfl
  · exact kcount_same (by omega)
theorem kcount_all : kcount K E key K.length = kcount K E key 8 := by
  by_cases h : K.length ≤ 8
  · obtain ⟨d, hd⟩ : ∃ d, K.length + d = 8 := ⟨8 - K.length, by omega⟩
    have : ∀ d, kcount K E key (K.length + d) = kcount K E key K.length := by
      intro d
      induction d with
      | zero => rfl
      | succ d ih => rw [← Nat.add_assoc, kcount_past (by omega), ih]
    rw [← hd, this]
  · obtain ⟨d, hd⟩ : ∃ d, 8 + d = K.length := ⟨K.length - 8, by omega⟩
    have : ∀ d, kcount K E key (8 + d) = kcount K E key 8 := by
      intro d
      induction d with
      | zero => rfl
      | succ d ih => rw [← Nat.add_assoc, kcount_same (by omega), ih]
    rw [← hd, this]
theorem kv_woken : (kv K E 8).woken key = (kcount K E key K.length : Nat) := by
  rw [kcount_all]
  simp only [SV.woken, kv, kcount]
  rw [List.take_of_length_le (by rw [ents_length]; omega), List.filter_cons]
  simp [wakes]
end
theorem SV.wake_none' (V : SV) (key : Int) : (V.wake key).woken key = 0 := by
  simp only [SV.woken, SV.wake]
  have : (V.ths.map fun p => if Go.Proofs.Ytemibcglhbjaoaa.wakes key p then (1, p.2) else p).filter (Go.Proofs.Ytemibcglhbjaoaa.wakes key) = [] := by
    rw [List.filter_eq_nil_iff]
    intro x hx
    obtain ⟨p, hp, rfl⟩ := List.mem_map.1 hx
    split
    · simp [Go.Proofs.Ytemibcglhbjaoaa.wakes]
    · assumption
  rw [this]
  rfl

/-! ### the walk -/
def KyInv (w0 : World) (s : Nat) (K E : List Int) (key : Int) (wv iv : Value) (w : World) : Prop :=
  ∃ (own : Nat → Nat) (i : Nat), iv = .int .i64 i ∧ i ≤ 8 ∧ Row w own 3 3 1 wv (kwant K E key i).length (intsV (kwant K E key i)) ∧ Sched w own 1 s (kv K E i) ∧ Ext (fun c => c ≠ 0) w0 w (fun _ => 0) own
def KyCnt (w1 : World) (K E : List Int) (key : Int) (g : Nat) (cv iv : Value) (w : World) : Prop :=
  ∃ j : Nat, iv = .int .i64 j ∧ cv = .int .i64 (kcount K E key j : Nat) ∧ j + g = K.length ∧ w = w1
theorem Ints.ext {P : Program} {T : TypeId} {w w' : World} {v : Value} {b off : Nat} {xs : List Int} {M : Nat → Prop} {own own' : Nat → Nat} (h : Ints P T w v b off xs) (e : Ext M w w' own own') (hm : 0 < xs.length → ¬ M (own b)) : Ints P T w' v b off xs :=
  h.keep (fun hl => e.same b (h.lt hl) (hm hl)) e.size
set_option maxHeartbeats 4000000 in
theorem schedKeys_walk (w : World) (v : Value) (n b off : Nat) (f : Nat → Nat → Int) (hp : Recs Try.prog 26 1 w v n b off f)
    (v2 : Value) (n2 b2 off2 : Nat) (f2 : Nat → Nat → Int) (hp2 : Recs Try.prog 26 1 w v2 n2 b2 off2 f2) (key : Int) (hkey : -9223372036854775808 ≤ key ∧ key ≤ 9223372036854775807) :
    Calls Try.prog 10 #[v, v2, .int .i64 key] w fun e w' => e = .returned (.bool true) ∧ Below w.heap.size w w' := by
  obtain ⟨i0, hi0, hz0, hs0, hz2⟩ := info_parts info_int
  have hsz := hp.size
  have hsz2 := hp2.size
  have hK := Ints.of_recs hp
  have hEn := Ints.of_recs hp2
  have hKl : ((List.range n).map fun i => f i 0).length = n := by simp
  have hEl : ((List.range n2).map fun i => f2 i 0).length = n2 := by simp
  generalize ((List.range n).map fun i => f i 0) = K at *
  generalize ((List.range n2).map fun i => f2 i 0) = E at *
  have klen := hK.len
  have kidx := hK.idx
  clear hp hp2
  go_enter Try.func10, Try.ntmps10
  go_wp2_with fail
  refine (SNew_any 8 1 (fun _ => 0) w).mono ?_
  rintro e w1 ⟨rfl, hB, hA⟩
  have h01 : Ext (fun c => c ≠ 0) w w1 (fun _ => 0) (ow (fun _ => 0) w.heap.size 1) := Ext.of_below hB _ _
  generalize ow (fun _ => 0) w.heap.size 1 = own1 at *
  generalize w.heap.size + 1 = s at *
  have H := Lib.hid h01
  clear h01 hB
  go_wp2_with fail
  refine (salive_any w1).mono ?_
  rintro e w2 ⟨rfl, hB⟩
  have h12 : Ext (fun c => c ≠ 0) w1 w2 own1 (ow own1 w1.heap.size 2) := Ext.of_below hB _ _
  have hA2 := hA.ext (M := fun _ => False) (Ext.of_below hB _ 2) (by simp)
  have H2 := Lib.hid (H.out.trans h12)
  rw [← kv_zero (K := K) (E := E)] at hA2
  clear h12 hB hA H
  go_wp2_with fail
  go_loopw [8, 9] (fun wv iv wr => KyInv w s K E key wv iv wr) (fun _ iv _ => 8 - (intOf iv).toNat)
  case atStart =>
    refine ⟨ow (ow own1 w1.heap.size 2) w2.heap.size 3, 0, rfl, by omega, ?_, ?_, ?_⟩
    · refine Row.start ?_
      exact Blk.new (own := ow (ow own1 w1.heap.size 2) w2.heap.size 3) (k := 3) w2 _ (ow_ge (Nat.le_refl _))
    · exact (hA2.ext (M := fun _ => False) (Ext.refl.ow 3) (by simp)).ext (M := fun _ => False) (Ext.refl.alloc _) (by simp)
    · exact (H2.out.ow 3).alloc _
  case round =>
    clear hA2 H2
    obtain ⟨own, i, rfl, hi, hrow, hA, hE⟩ := hrel
    have HE := Lib.hid hE
    clear hE
    have hkl := kwant_le (K := K) (E := E) (key := key) (i := i)
    by_cases hlt : i < 8
    · obtain ⟨e1, e2, e3⟩ := kv_spawn (K := K) (E := E) hlt
      have hsp := sc_as (r' := .tuple #[.int .i64 ((i : Int) + 1), .int .i64 0]) (Spawn_any hA (by simp [kv, ents_length]; omega)) (by rw [e1, e2]) e3
      have HSP := Lib.hid hsp
      have hi2 : (i : Int) < 8 := by omega
      clear hsp e1 e2 e3
      go_wp2_with fail
      refine HSP.out.mono ?_
      rintro e w3 ⟨rfl, own3, hE3, hA3⟩
      have hrow3 := hrow.ext hE3 (by simp)
      have HE3 := Lib.hid (HE.out.trans (hE3.mono (by simp)))
      clear hE3 HE HSP hA hrow
      have hE3b := HE3.out.below (by simp)
      have hha := Has_any (hEn.below hE3b) (by omega) ((i : Int) + 1)
      have bb : (((i : Int) + 1) != ((i : Int) + 1)) = false := by simp
      clear hE3b
      by_cases hc : E.contains ((i : Int) + 1) = true
      · rw [hc] at hha
        have HHA := Lib.hid hha
        have hen := sc_as (r' := .int .i64 0) (End_any hA3 ((i : Int) + 1)) (by rw [kmid_err]) (kmid_end hc)
        have HEN := Lib.hid hen
        have hkw : kwant K E key (i + 1) = kwant K E key i := by rw [kwant_succ, if_neg (wkf_end hc)]
        have HKW := Lib.hid hkw
        clear hha hen hkw hc
        go_wp2_with fail
        refine HHA.out.mono ?_
        rintro e w4 ⟨rfl, rfl⟩
        go_wp2_with fail
        refine HEN.out.mono ?_
        rintro e w4 ⟨rfl, own4, hE4, hA4⟩
        have hrow4 := hrow3.ext hE4 (by simp)
        have HE4 := Lib.hid (HE3.out.trans (hE4.mono (by simp)))
        clear hE4 HE3 HHA HEN hA3 hrow3
        go_wp2_with fail
        go_roundw
        case rel => exact ⟨own4, i + 1, by go_num, by omega, by rw [HKW.out]; exact hrow4, hA4, HE4.out⟩
        case measure => simp [intOf]; omega
      · have hcf : E.contains ((i : Int) + 1) = false := by simpa using hc
        rw [hcf] at hha
        have HHA := Lib.hid hha
        clear hha hc
        have hn7 : (kwant K E key i).length ≤ 7000000000000 := by omega
        by_cases hk : i < K.length
        · have hk2 : (i : Int) < K.length := by omega
          have c0 : w3.cell? ⟨b, off + i, none⟩ = some (.int .i64 K[i]) := (hK.below (HE3.out.below (by simp))).cell i hk
          have hbl := sc_as (r' := .int .i64 0) (Block_any hA3 ((i : Int) + 1) K[i]) (by rw [kmid_err]) (kmid_block hcf hk)
          have HBL := Lib.hid hbl
          have hkw := kwant_succ (K := K) (E := E) (key := key) (i := i)
          have hk3 := wkf_hit (key := key) hcf hk
          have hk4 := wkf_other (key := key) hcf hk
          have HC0 : Hid (w.cell? ⟨b, off + i, none⟩ = some (.int .i64 K[i])) := hK.cell i hk
          generalize K[i] = x at *
          by_cases hx : x = key
          · rw [if_pos (hk3 hx)] at hkw
            have HKW := Lib.hid hkw
            have bx : (x == key) = true := by simp [hx]
            clear hbl hkw hk3 hk4 hx hcf
            go_wp2_with fail
            refine HHA.out.mono ?_
            rintro e w4 ⟨rfl, rfl⟩
            go_wp2_with fail
            refine HBL.out.mono ?_
            rintro e w4 ⟨rfl, own4, hE4, hA4⟩
            have hrow4 := hrow3.ext hE4 (by simp)
            have hE4' := HE3.out.trans (hE4.mono (M' := fun c => c ≠ 0) (by simp))
            have c0' : w4.cell? ⟨b, off + i, none⟩ = some (.int .i64 x) := hE4'.old (hK.lt (by omega)) HC0.out
            have HE4 := Lib.hid hE4'
            clear hE4 hE4' HE3 HHA HBL hA3 hrow3 c0
            go_wp2_with (at_builtin; refine wpList_append_int rfl _ _ rfl _ rfl hrow4 hn7 rfl (by simp) ?_; intro v5 w5 own5 hr5 hE5)
            go_roundw
            case rel => exact ⟨own5, i + 1, by go_num, by omega, by rw [HKW.out, List.length_append]; exact hr5, hA4.ext hE5 (by simp), HE4.out.trans (hE5.mono (by simp))⟩
            case measure => simp [intOf]; omega
          · rw [if_neg (hk4 hx)] at hkw
            have HKW := Lib.hid hkw
            have bx : (x == key) = false := by simp [hx]
            clear hbl hkw hk3 hk4 hx hcf
            go_wp2_with fail
            refine HHA.out.mono ?_
            rintro e w4 ⟨rfl, rfl⟩
            go_wp2_with fail
            refine HBL.out.mono ?_
            rintro e w4 ⟨rfl, own4, hE4, hA4⟩
            have hrow4 := hrow3.ext hE4 (by simp)
            have hE4' := HE3.out.trans (hE4.mono (M' := fun c => c ≠ 0) (by simp))
            have c0' : w4.cell? ⟨b, off + i, none⟩ = some (.int .i64 x) := hE4'.old (hK.lt (by omega)) HC0.out
            have HE4 := Lib.hid hE4'
            clear hE4 hE4' HE3 HHA HBL hA3 hrow3 c0
            go_wp2_with fail
            go_roundw
            case rel => exact ⟨own4, i + 1, by go_num, by omega, by rw [HKW.out]; exact hrow4, hA4, HE4.out⟩
            case measure => simp [intOf]; omega
        · have hk2 : (K.length : Int) ≤ i := by omega
          have hkw : kwant K E key (i + 1) = kwant K E key i ++ [(i : Int) + 1] := by rw [kwant_succ, if_pos (wkf_ready hcf hk)]
          have HKW := Lib.hid hkw
          rw [kmid_none hcf hk] at hA3
          clear hkw hcf hk
          go_wp2_with fail
          refine HHA.out.mono ?_
          rintro e w4 ⟨rfl, rfl⟩
          go_wp2_with (at_builtin; refine wpList_append_int rfl _ _ rfl _ rfl hrow3 hn7 rfl (by simp) ?_; intro v5 w5 own5 hr5 hE5)
          go_roundw
          case rel => exact ⟨own5, i + 1, by go_num, by omega, by rw [HKW.out, List.length_append]; exact hr5, hA3.ext hE5 (by simp), HE3.out.trans (hE5.mono (by simp))⟩
          case measure => simp [intOf]; omega
    · obtain rfl : i = 8 := by omega
      go_wp2_with fail
      go_loopg [12, 76] K.length (fun g cv iv wx => KyCnt wr K E key g cv iv wx)
      case atStart => exact ⟨0, rfl, by simp [kcount], by omega, rfl⟩
      case round =>
        obtain ⟨j, rfl, rfl, hj, rfl⟩ := hrel
        have hcl := kcount_le (K := K) (E := E) (key := key) j
        by_cases hjk : j < K.length
        · have hjk2 : (j : Int) < K.length := by omega
          have c0 := (hK.below (HE.out.below (by simp))).cell j hjk
          have hew := ent_wakes (E := E) (key := key) hjk
          generalize K[j] = x at *
          by_cases h8 : j < 8
          · have h82 : (j : Int) < 8 := by omega
            have hkc := kcount_hit (K := K) (E := E) (key := key) h8
            have hha := Has_any (hEn.below (HE.out.below (by simp))) (by omega) ((j : Int) + 1)
            rw [hew] at hkc
            generalize E.contains ((j : Int) + 1) = ec at *
            have HHA := Lib.hid hha
            clear hha hew
            by_cases hx : x = key
            · have bx : (x == key) = true := by simp [hx]
              rw [bx] at hkc
              clear hx
              cases ec
              · have HKC : Hid (kcount K E key (j + 1) = kcount K E key j + 1) := by rw [hkc]; exact rfl
                clear hkc
                go_wp2_with fail
                refine HHA.out.mono ?_
                rintro e w4 ⟨rfl, rfl⟩
                go_wp2_with fail
                go_roundg (K.length - (j + 1))
                case rel => exact ⟨j + 1, by go_num, by rw [HKC.out]; go_num, by omega, rfl⟩
                case measure => omega
              · have HKC : Hid (kcount K E key (j + 1) = kcount K E key j) := by rw [hkc]; exact rfl
                clear hkc
                go_wp2_with fail
                refine HHA.out.mono ?_
                rintro e w4 ⟨rfl, rfl⟩
                go_wp2_with fail
                go_roundg (K.length - (j + 1))
                case rel => exact ⟨j + 1, by go_num, by rw [HKC.out], by omega, rfl⟩
                case measure => omega
            · have bx : (x == key) = false := by simp [hx]
              rw [bx] at hkc
              have HKC : Hid (kcount K E key (j + 1) = kcount K E key j) := by rw [hkc]; exact rfl
              clear hkc hx HHA
              go_wp2_with fail
              go_roundg (K.length - (j + 1))
              case rel => exact ⟨j + 1, by go_num, by rw [HKC.out], by omega, rfl⟩
              case measure => omega
          · have h82 : (8 : Int) ≤ j := by omega
            have HKC := Lib.hid (kcount_same (K := K) (E := E) (key := key) (show 8 ≤ j by omega))
            clear hew
            go_wp2_with fail
            go_roundg (K.length - (j + 1))
            case rel => exact ⟨j + 1, by go_num, by rw [HKC.out], by omega, rfl⟩
            case measure => omega
        · obtain rfl : j = K.length := by omega
          have hsp := sc_as (V' := kv K E 8) (r' := .tuple #[.int .i64 0, .int .i64 3]) (Spawn_any hA (by simp [kv, ents_length])) (by simp [SV.spawnId, kv_full]) (by simp [SV.spawn, kv_full])
          have HSP := Lib.hid hsp
          have hwn := kv_woken (K := K) (E := E) (key := key)
          have HWN := Lib.hid hwn
          clear hsp hwn
          go_wp2_with fail
          refine HSP.out.mono ?_
          rintro e w3 ⟨rfl, own3, hE3, hA3⟩
          have hrow3 := hrow.ext hE3 (by simp)
          have HE3 := Lib.hid (HE.out.trans (hE3.mono (by simp)))
          have hwk := Wake_any hA3 key
          rw [HWN.out] at hwk
          have HWK := Lib.hid hwk
          clear hE3 HE HSP hA hrow hA3 hwk
          go_wp2_with fail
          refine HWK.out.mono ?_
          rintro e w4 ⟨rfl, own4, hE4, hA4⟩
          have hrow4 := hrow3.ext hE4 (by simp)
          have HE4 := Lib.hid (HE3.out.trans (hE4.mono (by simp)))
          clear hE4 HE3 HWK hrow3
          have hrd := Ready_any hA4 4
          rw [kv_ready] at hrd
          have HRD := Lib.hid hrd
          clear hrd
          go_wp2_with fail
          refine HRD.out.mono ?_
          rintro e w5 ⟨rv, rfl, hrr, hB⟩
          obtain ⟨rb1, hI1⟩ := Ints.of_row Try.underlying26 hi0 hs0 hrr
          obtain ⟨rb2, hI2⟩ := Ints.of_row Try.underlying26 hi0 hs0 (hrow4.below hB 4)
          have hA5 := hA4.ext (M := fun _ => False) (Ext.of_below hB own4 4) (by simp)
          have HE5 := Lib.hid (HE4.out.trans (Ext.of_below (M := fun c => c ≠ 0) hB own4 4))
          generalize ow own4 w4.heap.size 4 = own5 at *
          have hsm := SameInts_any hI1 hI2 (by omega)
          simp only [decide_true] at hsm
          have HSM := Lib.hid hsm
          clear hsm hI1 hI2 hrr hB hrow4 HRD hA4 HE4
          go_wp2_with fail
          refine HSM.out.mono ?_
          rintro e w6 ⟨rfl, nd, rfl⟩
          have hA6 := hA5.ext (M := fun _ => False) (Ext.refl.drewN nd) (by simp)
          have HE6 := Lib.hid (HE5.out.drewN nd)
          clear hA5 HE5 HSM
          generalize w5.drewN nd = w6 at *
          have hwk := sc_as (r' := .int .i64 0) (Wake_any hA6 key) (by rw [SV.wake_none']) rfl
          have HWK := Lib.hid hwk
          clear hwk
          go_wp2_with fail
          refine HWK.out.mono ?_
          rintro e w7 ⟨rfl, own7, hE7, hA7⟩
          have HE7 := Lib.hid (HE6.out.trans (hE7.mono (by simp)))
          go_wp2_with fail
          go_ret
          exact ⟨rfl, HE7.out.below (by simp)⟩
end Go.Proofs.Ytemibcglhbjaoaa
