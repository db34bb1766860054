/- EpochOrder: blocks wait in the order of retiring, and are freed as soon as the last holder leaves. -/
import Derived.Test.YtdomehpdjnfkeaaEpochLaw
import Derived.Test.YtdomehpdjnfkeaaInts
import Derived.Test.YtdomehpdjnfkeaaCame
set_option maxRecDepth 20000
set_option linter.unusedVariables false
set_option linter.unusedSimpArgs false
namespace Go.Proofs.Ytdomehpdjnfkeaa
open Go.RowKit Go.PM

/-! ### Without -/
def woT (xs : List Int) (t : Int) (i : Nat) : List Int := (xs.take i).filter (fun x => x != t)
theorem woT_succ (xs : List Int) (t : Int) (i : Nat) (hi : i < xs.length) : woT xs t (i + 1) = woT xs t i ++ (if xs[i] != t then [xs[i]] else []) := by
  unfold woT
  rw [List.take_succ_eq_append_getElem hi, List.filter_append]
  by_cases h : (xs[i] != t) = true
  · rw [if_pos h]; simp [List.filter_cons, h]
  · rw [if_neg h]; simp [List.filter_cons, h]
def WoInv (w0 : World) (xs : List Int) (t : Int) (g : Nat) (ov iv : Value) (w : World) : Prop :=
  ∃ (own : Nat → Nat) (i : Nat), iv = .int .i64 i ∧ i + g = xs.length ∧ Row w own 1 3 1 ov (woT xs t i).length (irow (woT xs t i)) ∧ Ext (fun c => c ≠ 0) w0 w (fun _ => 0) own
set_option maxHeartbeats 1000000 in
theorem Without_any {w : World} {own : Nat → Nat} {v : Value} {b off : Nat} {xs : List Int} (h : Ints Try.prog 33 w v b off xs) (hl : xs.length ≤ 4000000000000) (t : Int) (L : Nat) :
    Calls Try.prog 22 #[v, .int .i64 t] w fun e w' => ∃ v', e = .returned v' ∧ Row w' (ow own w.heap.size L) L 3 1 v' (xs.filter (fun x => x != t)).length (irow (xs.filter (fun x => x != t))) ∧ Below w.heap.size w w' := by
  have hlen := h.len
  have hidx := h.idx
  have H := Lib.hid h
  clear h
  go_enter Try.func22, Try.ntmps22
  go_wp2_with fail
  go_loopg [5, 6] xs.length (fun g ov iv wr => WoInv w xs t g ov iv wr)
  case atStart =>
    have h0 : Ext (fun c => c ≠ 0) w w (fun _ => 0) (ow (fun _ => 0) w.heap.size 1) := Ext.refl.ow 1
    exact ⟨ow (fun _ => 0) w.heap.size 1, 0, rfl, by omega, Row.start (Blk.new w _ (ow_ge (Nat.le_refl _))), h0.alloc _⟩
  case round =>
    obtain ⟨own1, i, rfl, hi, hr1, hE⟩ := hrel
    have HE := Lib.hid hE
    clear hE
    by_cases hlt : i < xs.length
    · have hlt2 : (i : Int) < xs.length := by omega
      have hc : wr.cell? ⟨b, off + i, none⟩ = some (.int .i64 xs[i]) := HE.out.old (H.out.lt (by omega)) (H.out.cell i hlt)
      have HS := Lib.hid (woT_succ xs t i hlt)
      have hn7 : (woT xs t i).length ≤ 7000000000000 := by
        have := List.length_filter_le (fun x : Int => x != t) (xs.take i)
        rw [List.length_take] at this
        unfold woT
        omega
      rcases Bool.eq_false_or_eq_true (xs[i] != t) with hb | hb
      · have HS2 := Lib.hid (show woT xs t (i + 1) = woT xs t i ++ [xs[i]] by rw [HS.out, if_pos hb])
        clear HS
        generalize xs[i] = u at *
        go_wp2_with (at_builtin; refine wpList_append_irow rfl _ _ rfl _ rfl hr1 hn7 rfl (by simp) ?_; intro v1 wa owna hra hEa)
        go_roundg (xs.length - (i + 1))
        case measure => omega
        case rel => exact ⟨owna, i + 1, by go_num, by omega, by rw [HS2.out, List.length_append]; exact hra, HE.out.trans (hEa.mono (by simp))⟩
      · have HS2 := Lib.hid (show woT xs t (i + 1) = woT xs t i by rw [HS.out, if_neg (by rw [hb]; decide), List.append_nil])
        clear HS
        generalize xs[i] = u at *
        go_wp2_with fail
        go_roundg (xs.length - (i + 1))
        case measure => omega
        case rel => exact ⟨own1, i + 1, by go_num, by omega, by rw [HS2.out]; exact hr1, HE.out⟩
    · obtain rfl : i = xs.length := by omega
      have hf := hr1.recol (own' := ow own w.heap.size L) (k' := L) (fun b _ hc => ow_ge (HE.out.made (by rw [hc]; decide)))
      unfold woT at hf
      rw [List.take_length] at hf
      have HF := Lib.hid hf
      have HBW := Lib.hid (HE.out.below (by simp))
      clear hr1 hf
      go_wp2_with fail
      go_ret
      exact ⟨_, rfl, HF.out, HBW.out⟩
/-! ### the plain law -/
theorem mem_insFrom (l : List Int) : ∀ (i : Nat) (t : Int), t ∈ insFrom i l ↔ ∃ (j : Nat) (h : j < l.length), t = ((i + j : Nat) : Int) ∧ 0 < l[j] := by
  induction l with
  | nil => intro i t; simp [insFrom]
  | cons x l ih =>
    intro i t
    have e : (∃ (j : Nat) (h : j < (x :: l).length), t = ((i + j : Nat) : Int) ∧ 0 < (x :: l)[j]) ↔ (t = (i : Int) ∧ 0 < x) ∨ ∃ (j : Nat) (h : j < l.length), t = ((i + 1 + j : Nat) : Int) ∧ 0 < l[j] := by
      constructor
      · rintro ⟨j, hj, h1, h2⟩
        cases j with
        | zero => exact .inl ⟨by simpa using h1, by simpa using h2⟩
        | succ j => exact .inr ⟨j, by simpa using hj, by rw [h1]; congr 1; omega, by simpa using h2⟩
      · rintro (⟨h1, h2⟩ | ⟨j, hj, h1, h2⟩)
        · exact ⟨0, by simp, by simpa using h1, by simpa using h2⟩
        · exact ⟨j + 1, by simpa using hj, by rw [h1]; congr 1; omega, by simpa using h2⟩
    rw [e, ← ih (i + 1) t, show insFrom i (x :: l) = if 0 < x then (i : Int) :: insFrom (i + 1) l else insFrom (i + 1) l from rfl]
    split
    · rename_i h; simp [h]
    · rename_i h; simp [h]
theorem insFrom_nodup (l : List Int) : ∀ i : Nat, (insFrom i l).Nodup := by
  induction l with
  | nil => intro i; simp [insFrom]
  | cons x l ih =>
    intro i
    unfold insFrom
    split
    · refine List.nodup_cons.2 ⟨fun h => ?_, ih (i + 1)⟩
      obtain ⟨j, _, h1, _⟩ := (mem_insFrom l (i + 1) i).1 h
      omega
    · exact ih (i + 1)
theorem held_iff (Y : YV) (p : Int × Int × Int) : Y.held p = true ↔ ∃ x ∈ Y.ent, 0 < x ∧ x < p.2.2 := by
  unfold YV.held holdsB
  simp [List.any_eq_true]
structure OrIn (i : Int) (Y : YV) : Prop where
  bound : Y.bound = 64
  len : Y.ent.length = 9
  zero : Y.ent[0]? = some 0
  lim : Y.limbo = []
  now : Y.now ≤ i
theorem OrIn.fresh : OrIn 0 (YV.fresh 8 64) := ⟨by kernel_rfl, by kernel_rfl, by kernel_rfl, rfl, by show (0 : Int) ≤ 0; omega⟩
theorem OrIn.enter {i : Int} {Y : YV} (h : OrIn i Y) (t : Int) : OrIn (i + 1) (Y.enter t) := by
  have hn := h.now
  unfold YV.enter
  split
  · rename_i he
    have ht : 1 ≤ t := by
      unfold YV.enterErr at he
      split at he
      · cases he
      · rename_i hb
        unfold YV.bad at hb
        simp at hb
        omega
    refine ⟨h.bound, by show (Y.ent.set _ _).length = 9; rw [List.length_set]; exact h.len, ?_, h.lim, by show Y.now + 1 ≤ i + 1; omega⟩
    show (Y.ent.set _ _)[0]? = some 0
    rw [List.getElem?_set_ne (by omega)]
    exact h.zero
  · exact ⟨h.bound, h.len, h.zero, h.lim, by omega⟩
def orC (Y : YV) : Bool := Y.ent.any fun x => decide (0 < x)
theorem orC_inside (Y : YV) : orC Y = decide (0 < Y.inside.length) := by
  unfold orC YV.inside
  have key : (∃ x ∈ Y.ent, 0 < x) ↔ 0 < (insFrom 0 Y.ent).length := by
    rw [List.length_pos_iff_exists_mem]
    constructor
    · rintro ⟨x, hx, h⟩
      obtain ⟨j, hj, rfl⟩ := List.mem_iff_getElem.1 hx
      exact ⟨_, (mem_insFrom _ _ _).2 ⟨j, hj, rfl, h⟩⟩
    · rintro ⟨t, ht⟩
      obtain ⟨j, hj, _, h⟩ := (mem_insFrom _ _ _).1 ht
      exact ⟨_, List.getElem_mem hj, h⟩
  rw [Bool.eq_iff_iff]
  simp [List.any_eq_true, key]
def orLim (N : Int) : Bool → Nat → List (Int × Int × Int)
  | true, i => (List.range i).map fun j : Nat => ((j : Int) + 1, (j : Int) + 1, N + j + 1)
  | false, 0 => []
  | false, i + 1 => [((i : Int) + 1, (i : Int) + 1, N + i + 1)]
def orV : Bool → Nat → AV
  | true, i => ⟨3000, 2 * i, i, 0, (List.range i).map fun j : Nat => ((j : Int) + 1, [0, 0])⟩
  | false, 0 => ⟨3000, 0, 0, 0, []⟩
  | false, i + 1 => ⟨3000, 2, i + 1, 0, [((i : Int) + 1, [0, 0])]⟩
def orY (Y : YV) (c : Bool) (i : Nat) : YV := { Y with now := Y.now + i, limbo := orLim Y.now c i }
theorem kept_all {Y : YV} {l : List (Int × Int × Int)} (h : ∀ p ∈ l, Y.held p = true) : keptL Y l = l := List.filter_eq_self.2 h
theorem kept_none {Y : YV} {l : List (Int × Int × Int)} (h : ∀ p ∈ l, Y.held p = false) : keptL Y l = [] := List.filter_eq_nil_iff.2 (fun p hp => by rw [h p hp]; decide)
theorem drops_free {Y : YV} {l : List (Int × Int × Int)} (h : ∀ p ∈ l, Y.held p = false) : ∀ V : AV, dropsV Y V l = l.foldl (fun V p => V.free p.1) V := by
  induction l with
  | nil => intro V; rfl
  | cons x l ih =>
    intro V
    show dropsV Y (dropV Y V x) l = _
    rw [ih (fun p hp => h p (List.mem_cons_of_mem _ hp))]
    unfold dropV
    rw [h x (by simp)]
    rfl
theorem orLim_at (N : Int) (c : Bool) (i : Nat) (hi : i ≤ 5) : ∀ p ∈ orLim N c i, N < p.2.2 ∧ p.2.2 ≤ N + 5 := by
  intro p hp
  cases c with
  | true =>
    simp only [orLim, List.mem_map, List.mem_range] at hp
    obtain ⟨j, hj, rfl⟩ := hp
    exact ⟨by show N < N + j + 1; omega, by show N + j + 1 ≤ N + 5; omega⟩
  | false =>
    cases i with
    | zero => simp [orLim] at hp
    | succ i =>
      simp only [orLim, List.mem_singleton] at hp
      subst hp
      exact ⟨by show N < N + i + 1; omega, by show N + i + 1 ≤ N + 5; omega⟩
theorem orLim_few (N : Int) (c : Bool) (i : Nat) (hi : i ≤ 5) : (orLim N c i).length ≤ i := by
  cases c with
  | true => simp [orLim]
  | false => cases i <;> simp [orLim]
theorem orY_held {Y : YV} (hok : Y.Ok) (c : Bool) (hc : c = orC Y) (i : Nat) (p : Int × Int × Int) (hp : Y.now < p.2.2) : (orY Y c i).held p = c := by
  rw [Bool.eq_iff_iff, held_iff, hc]
  unfold orC
  simp only [List.any_eq_true, decide_eq_true_eq]
  constructor
  · rintro ⟨x, hx, h1, _⟩
    exact ⟨x, hx, h1⟩
  · rintro ⟨x, hx, h1⟩
    have := hok.since x hx
    exact ⟨x, hx, h1, by omega⟩
theorem orV_alloc (c : Bool) (i : Nat) (hi : i < 5) : (orV c i).allocErr 2 = 0 ∧ ((orV c i).alloc 2).freeErr ((i : Int) + 1) = 0 ∧ (orV c i).made + 1 = (i : Int) + 1 ∧ (orV c i).made ≤ 5 ∧ ((orV c i).alloc 2).faults = 0 := by
  rcases i with _ | _ | _ | _ | _ | i
  all_goals first | omega | skip
  all_goals cases c
  all_goals exact ⟨by decide, by decide, by decide, by decide, by decide⟩
theorem or_step {Y : YV} {n : Int} (h : OrIn n Y) (hok : Y.Ok) (c : Bool) (hc : c = orC Y) (i : Nat) (hi : i < 5) :
    (orY Y c i).retireErr ((orV c i).alloc 2) (1 + (i : Int)) ((i : Int) + 1) = 0 ∧ retireV (orY Y c i) ((orV c i).alloc 2) (1 + (i : Int)) ((i : Int) + 1) = orV c (i + 1) ∧ (orY Y c i).retire ((orV c i).alloc 2) (1 + (i : Int)) ((i : Int) + 1) = orY Y c (i + 1) := by
  have hb : (orY Y c i).bad (1 + (i : Int)) = false := by
    have := h.len
    unfold YV.bad orY
    simp
    omega
  have hh : ∀ p ∈ (orY Y c i).limbo, (orY Y c i).held p = c := fun p hp => orY_held hok c hc i p (orLim_at Y.now c i (by omega) p hp).1
  have ha : anyR (orY Y c i) ((i : Int) + 1) = false := by
    unfold anyR orY
    rcases i with _ | _ | _ | _ | _ | i
    all_goals first | (cases c <;> rfl) | omega
  obtain ⟨_, hfr, _, _, _⟩ := orV_alloc c i hi
  have hsw : (orY Y c i).sweep = { orY Y c i with limbo := if c then orLim Y.now c i else [] } := by
    unfold YV.sweep
    cases c with
    | true => rw [kept_all hh]; rfl
    | false => rw [kept_none hh]; rfl
  have hdr : dropsV (orY Y c i) ((orV c i).alloc 2) (orY Y c i).limbo = orV c (i + 1) := by
    cases c with
    | true =>
      rw [dropsV_kept _ _ _ hh]
      rcases i with _ | _ | _ | _ | _ | i
      all_goals first | omega | kernel_rfl
    | false =>
      rw [drops_free hh]
      unfold orY
      rcases i with _ | _ | _ | _ | _ | i
      all_goals first | omega | rfl
  have hfu : (orY Y c i).full (1 + (i : Int)) = false := by
    unfold YV.full YV.limboN
    rw [hsw]
    have hbd : (orY Y c i).bound = 64 := h.bound
    rw [hbd]
    have hle : ((if c then orLim Y.now c i else []).filter fun p => p.2.1 == 1 + (i : Int)).length ≤ 5 := by
      refine Nat.le_trans (List.length_filter_le _ _) ?_
      have := orLim_few Y.now c i (by omega)
      split <;> simp <;> omega
    simp only [decide_eq_false_iff_not]
    omega
  unfold YV.retireErr retireV YV.retire
  rw [hb, ha, hfr, hfu, hdr, hsw]
  refine ⟨rfl, rfl, ?_⟩
  simp only [Bool.false_eq_true, if_false, if_true]
  unfold YV.wait orY
  rcases i with _ | _ | _ | _ | _ | i
  all_goals first | omega | skip
  all_goals cases c
  all_goals simp [orLim, List.range_succ, Int.add_assoc]
structure OrMid (N : Int) (rem : List Int) (Y : YV) : Prop where
  bound : Y.bound = 64
  len : Y.ent.length = 9
  now : N + 5 ≤ Y.now
  ent : ∀ (j : Nat) (hj : j < Y.ent.length), ((j : Int) ∈ rem → 0 < Y.ent[j] ∧ Y.ent[j] ≤ N) ∧ ((j : Int) ∉ rem → Y.ent[j] = 0 ∨ N + 5 < Y.ent[j])
  nodup : rem.Nodup
  rng : ∀ t ∈ rem, 1 ≤ t ∧ t ≤ 8
  lim : ∀ p ∈ Y.limbo, N < p.2.2 ∧ p.2.2 ≤ N + 5
  few : Y.limbo.length ≤ 5
theorem OrMid.start {Y : YV} {n : Int} (h : OrIn n Y) (hok : Y.Ok) (c : Bool) : OrMid Y.now Y.inside (orY Y c 5) := by
  have hl := h.len
  refine ⟨h.bound, h.len, by show Y.now + 5 ≤ Y.now + (5 : Nat); omega, ?_, insFrom_nodup _ _, ?_, orLim_at _ _ _ (by omega), orLim_few _ _ _ (by omega)⟩
  · intro j hj
    have hj : j < Y.ent.length := hj
    have hs := hok.since Y.ent[j] (List.getElem_mem hj)
    have hm : (j : Int) ∈ Y.inside ↔ 0 < Y.ent[j] := by
      unfold YV.inside
      rw [mem_insFrom]
      constructor
      · rintro ⟨k, hk, h1, h2⟩
        obtain rfl : j = k := by omega
        exact h2
      · intro h2
        exact ⟨j, hj, by simp, h2⟩
    rw [hm]
    show (0 < Y.ent[j] → 0 < Y.ent[j] ∧ Y.ent[j] ≤ Y.now) ∧ (¬ 0 < Y.ent[j] → Y.ent[j] = 0 ∨ Y.now + 5 < Y.ent[j])
    omega
  · intro t ht
    obtain ⟨j, hj, h1, h2⟩ := (mem_insFrom _ _ _).1 ht
    have hz := h.zero
    have hj0 : j ≠ 0 := by
      rintro rfl
      rw [List.getElem?_eq_getElem hj] at hz
      have := Option.some.inj hz
      omega
    omega
theorem OrMid.inside {N : Int} {rem : List Int} {Y : YV} (h : OrMid N rem Y) {t : Int} (ht : t ∈ rem) : Y.inside.contains t = true := by
  have := h.rng t ht
  have hl := h.len
  have h1 : ((t.toNat : Nat) : Int) = t := by omega
  have hj : t.toNat < Y.ent.length := by omega
  have := ((h.ent t.toNat hj).1 (by rw [h1]; exact ht)).1
  simp only [List.contains_eq_mem, decide_eq_true_eq]
  exact (mem_insFrom _ _ _).2 ⟨t.toNat, hj, by omega, this⟩
theorem OrMid.leave {N : Int} {rem : List Int} {Y : YV} (h : OrMid N rem Y) (hn : 0 ≤ N) {t : Int} (ht : t ∈ rem) :
    Y.leaveErr t = 0 ∧ OrMid N (rem.filter fun x => x != t) ((Y.leave t).enter t) ∧ ((Y.leave t).enter t).limbo = Y.limbo ∧ ((Y.leave t).enter t).now = Y.now + 1 ∧ (rem.filter fun x => x != t).length + 1 = rem.length := by
  have hr := h.rng t ht
  have hl := h.len
  have hnow := h.now
  have h1 : ((t.toNat : Nat) : Int) = t := by omega
  have hj : t.toNat < Y.ent.length := by omega
  have hs := (h.ent t.toNat hj).1 (by rw [h1]; exact ht)
  have hbad : Y.bad t = false := by unfold YV.bad; simp; omega
  have hle : Y.leaveErr t = 0 := by
    unfold YV.leaveErr YV.since
    rw [hbad, List.getD_eq_getElem?_getD, List.getElem?_eq_getElem hj]
    simp only [Bool.false_eq_true, if_false, Option.getD_some]
    rw [if_neg (by omega)]
  have hlv : Y.leave t = { Y with ent := Y.ent.set t.toNat 0 } := by unfold YV.leave; rw [if_pos hle]
  have hbad2 : (Y.leave t).bad t = false := by rw [hlv]; unfold YV.bad; simp; omega
  have hee : (Y.leave t).enterErr t = 0 := by
    unfold YV.enterErr
    rw [hbad2, hlv]
    unfold YV.since
    simp only [List.getD_eq_getElem?_getD, List.getElem?_set_self hj, Option.getD_some, Bool.false_eq_true, if_false]
    rfl
  have hen : (Y.leave t).enter t = { Y with now := Y.now + 1, ent := Y.ent.set t.toNat (Y.now + 1) } := by
    unfold YV.enter
    rw [if_pos hee, hlv]
    simp only [List.set_set]
  refine ⟨hle, ?_, by rw [hen], by rw [hen], ?_⟩
  · rw [hen]
    refine ⟨h.bound, by simpa using hl, by show N + 5 ≤ Y.now + 1; omega, ?_, h.nodup.filter _, fun x hx => h.rng x (List.mem_filter.1 hx).1, h.lim, h.few⟩
    intro j hj2
    have hj3 : j < Y.ent.length := by simpa using hj2
    have he := h.ent j hj3
    have hm : (j : Int) ∈ rem.filter (fun x => x != t) ↔ (j : Int) ∈ rem ∧ (j : Int) ≠ t := by rw [List.mem_filter]; simp
    rw [hm]
    show ((j : Int) ∈ rem ∧ (j : Int) ≠ t → 0 < (Y.ent.set t.toNat (Y.now + 1))[j]'(by simpa using hj2) ∧ (Y.ent.set t.toNat (Y.now + 1))[j]'(by simpa using hj2) ≤ N) ∧ (¬ ((j : Int) ∈ rem ∧ (j : Int) ≠ t) → (Y.ent.set t.toNat (Y.now + 1))[j]'(by simpa using hj2) = 0 ∨ N + 5 < (Y.ent.set t.toNat (Y.now + 1))[j]'(by simpa using hj2))
    by_cases hjt : j = t.toNat
    · subst hjt
      simp only [List.getElem_set_self]
      exact ⟨fun hh => absurd h1 hh.2, fun _ => .inr (by omega)⟩
    · rw [List.getElem_set_ne (by omega)]
      exact ⟨fun hh => he.1 hh.1, fun hh => he.2 (fun hm => hh ⟨hm, by omega⟩)⟩
  · have hnd := h.nodup
    clear h hs hle hlv hbad2 hee hen
    have he : rem.filter (fun x => x != t) = rem.erase t := (hnd.erase_eq_filter t).symm
    rw [he, List.length_erase_of_mem ht]
    have := List.length_pos_of_mem ht
    omega
theorem OrMid.held {N : Int} {rem : List Int} {Y : YV} (h : OrMid N rem Y) (p : Int × Int × Int) (hp : p ∈ Y.limbo) : Y.held p = !rem.isEmpty := by
  have hl := h.len
  have hlim := h.lim p hp
  rw [Bool.eq_iff_iff, held_iff]
  constructor
  · rintro ⟨x, hx, h1, h2⟩
    obtain ⟨j, hj, rfl⟩ := List.mem_iff_getElem.1 hx
    by_cases hm : (j : Int) ∈ rem
    · cases rem with
      | nil => simp at hm
      | cons a l => rfl
    · have := (h.ent j hj).2 hm
      omega
  · intro hne
    cases rem with
    | nil => simp at hne
    | cons t l =>
      have hr := h.rng t (by simp)
      have h1 : ((t.toNat : Nat) : Int) = t := by omega
      have hj : t.toNat < Y.ent.length := by omega
      have hs := (h.ent t.toNat hj).1 (by rw [h1]; simp)
      exact ⟨_, List.getElem_mem hj, hs.1, by omega⟩
theorem OrMid.sweep {N : Int} {rem : List Int} {Y : YV} (h : OrMid N rem Y) (V : AV) :
    OrMid N rem Y.sweep ∧ Y.sweep.now = Y.now ∧ (rem ≠ [] → keptL Y Y.limbo = Y.limbo) ∧ (rem = [] → keptL Y Y.limbo = []) ∧ (dropsV Y V Y.limbo).faults + Y.sweep.limbo.length ≤ V.faults + Y.limbo.length := by
  have hk : (rem ≠ [] → keptL Y Y.limbo = Y.limbo) ∧ (rem = [] → keptL Y Y.limbo = []) := by
    refine ⟨fun hr => kept_all fun p hp => ?_, fun hr => kept_none fun p hp => ?_⟩
    · rw [h.held p hp]; cases rem with
      | nil => exact absurd rfl hr
      | cons _ _ => rfl
    · rw [h.held p hp, hr]; rfl
  have hsub : ∀ p ∈ Y.sweep.limbo, p ∈ Y.limbo := fun p hp => (List.mem_filter.1 hp).1
  have hlen : Y.sweep.limbo.length ≤ Y.limbo.length := List.length_filter_le _ _
  have hfew := h.few
  refine ⟨⟨h.bound, h.len, h.now, h.ent, h.nodup, h.rng, fun p hp => h.lim p (hsub p hp), by omega⟩, rfl, hk.1, hk.2, ?_⟩
  by_cases hr : rem = []
  · have := dropsV_faults Y Y.limbo V
    have h2 : Y.sweep.limbo = [] := hk.2 hr
    rw [h2]
    simpa using this
  · have hd := dropsV_kept Y V Y.limbo fun p hp => by
      rw [h.held p hp]
      cases rem with
      | nil => exact absurd rfl hr
      | cons _ _ => rfl
    have h2 : Y.sweep.limbo = Y.limbo := hk.1 hr
    rw [hd, h2]
    omega
/-! ### the walk -/
theorem orY_waiting (Y : YV) (c : Bool) (i : Nat) (hi : i < 5) : (orY Y c (i + 1)).waiting = if c then (orY Y c i).waiting ++ [(i : Int) + 1] else [(i : Int) + 1] := by
  unfold YV.waiting orY
  cases c with
  | true => simp [orLim, List.range_succ]
  | false => simp [orLim]
def Or2 (w0 : World) (a y : Nat) (ev iv : Value) (Y : YV) (c : Bool) (g : Nat) (bv kv : Value) (w : World) : Prop :=
  ∃ (own : Nat → Nat) (i : Nat) (lv : Value), kv = .int .i64 i ∧ i + g = 5 ∧ Arena w own 1 a (orV c i) ∧ Yard w own 2 y a (orY Y c i) ev lv ∧ Row w own 3 3 1 iv Y.inside.length (irow Y.inside) ∧
    Row w own 4 3 1 bv (orY Y c i).waiting.length (irow (orY Y c i).waiting) ∧ Ext (fun c => c ≠ 0) w0 w (fun _ => 0) own
theorem Row.empty (w : World) (own : Nat → Nat) (k : Nat) (E : TypeId) : Row (w.alloc (.cells #[] E)) (ow own w.heap.size k) k E 1 (.slice (some ⟨w.heap.size, 0, none⟩) 0 0) 0 [] :=
  ⟨by simp, .inr ⟨_, 0, #[], rfl, Blk.new w _ (ow_ge (Nat.le_refl _)), by omega, by simp [maxLen], by simp, by simp⟩⟩
theorem Row.one (w : World) (own : Nat → Nat) (k : Nat) (E : TypeId) (x : Value) : Row (w.alloc (.cells #[x] E)) (ow own w.heap.size k) k E 1 (.slice (some ⟨w.heap.size, 0, none⟩) 1 1) 1 [x] :=
  ⟨by simp, .inr ⟨_, 1, #[x], rfl, Blk.new w _ (ow_ge (Nat.le_refl _)), by omega, by simp [maxLen], by simp, by simp⟩⟩
def Or1 (w0 : World) (a y : Nat) (N : Nat) (ev : Value) (g : Nat) (iv : Value) (w : World) : Prop :=
  ∃ (own : Nat → Nat) (i : Nat) (Y : YV), iv = .int .i64 i ∧ i + g = N ∧ OrIn i Y ∧ Arena w own 1 a (AV.fresh 3000) ∧ Yard w own 2 y a Y ev (.slice none 0 0) ∧ Ext (fun c => c ≠ 0) w0 w (fun _ => 0) own
def Or3 (w0 : World) (a y : Nat) (ev lst : Value) (xs : List Int) (N : Int) (g : Nat) (sv dv iv : Value) (w : World) : Prop :=
  ∃ (own : Nat → Nat) (i : Nat) (lv : Value) (V : AV) (Y : YV) (rem : List Int), iv = .int .i64 i ∧ i + g = xs.length ∧ dv = .int .i64 rem.length ∧ OrMid N rem Y ∧ (∀ j (hj : j < xs.length), j < i → xs[j] ∉ rem) ∧
    (0 < i → rem = [] → Y.limbo = []) ∧ V.faults + Y.limbo.length ≤ 5 ∧ Y.now ≤ N + 5 + i ∧ Arena w own 1 a V ∧ Yard w own 2 y a Y ev lv ∧ Row w own 3 3 1 sv rem.length (irow rem) ∧ Row w own 6 3 1 lst xs.length (irow xs) ∧
    Ext (fun c => c ≠ 0) w0 w (fun _ => 0) own
theorem nodup_short : ∀ (k : Nat) (l : List Int), l.Nodup → (∀ t ∈ l, 1 ≤ t ∧ t ≤ k) → l.length ≤ k
  | 0, l, _, h => by
    cases l with
    | nil => simp
    | cons a l => have := h a (by simp); omega
  | k + 1, l, hn, h => by
    have h1 : (l.erase ((k : Int) + 1)).length ≤ k := nodup_short k _ (hn.erase _) fun t ht => by
      have := h t (List.mem_of_mem_erase ht)
      have : t ≠ (k : Int) + 1 := ((List.Nodup.mem_erase_iff hn).1 ht).1
      omega
    by_cases hm : (k : Int) + 1 ∈ l
    · rw [List.length_erase_of_mem hm] at h1; omega
    · rw [List.erase_of_not_mem hm] at h1; omega
theorem OrMid.short {N : Int} {rem : List Int} {Y : YV} (h : OrMid N rem Y) : rem.length ≤ 8 := nodup_short 8 rem h.nodup h.rng
set_option maxHeartbeats 8000000 in
theorem epochOrder_walk (w : World) (v : Value) (n b off : Nat) (f : Nat → Nat → Int) (hp : Recs Try.prog 33 1 w v n b off f) (u : Value) (m b2 off2 : Nat) (f2 : Nat → Nat → Int) (hq : Recs Try.prog 33 1 w u m b2 off2 f2) (hu : SlOf u m b2 off2) :
    Calls Try.prog 5 #[v, u] w fun e w' => e = .returned (.bool true) ∧ Below w.heap.size w w' := by
  have hlen := hp.len
  have hidx : ∀ w' (i : Nat), i < n → (Instr.indexAt 33 v (.int .i64 i)).run Try.prog w' = .ok (.pointer (some ⟨b, off + i, none⟩)) w' := fun w' i hi => by
    have := hp.idx w' i hi
    rwa [Nat.mul_one] at this
  have hsz := hp.size
  have hsz2 := hq.size
  have HU := Lib.hid hu
  clear hu
  go_enter Try.func5, Try.ntmps5
  go_wp2_with fail
  refine (alive4_any w).mono ?_
  rintro e w0 ⟨rfl, hB⟩
  have h00 : Ext (fun c => c ≠ 0) w w0 (fun _ => 0) (ow (fun _ => 0) w.heap.size 3) := Ext.of_below hB _ _
  generalize ow (fun _ => 0) w.heap.size 3 = own0 at *
  have H0 := Lib.hid h00
  clear h00 hB
  go_wp2_with fail
  refine (New_any 3000 1 own0 w0).mono ?_
  rintro e w1 ⟨rfl, hB, hA⟩
  have H1 := Lib.hid (H0.out.trans (Ext.of_below hB own0 1))
  generalize ow own0 w0.heap.size 1 = own1 at *
  generalize w0.heap.size + 1 = a at *
  clear hB H0
  go_wp2_with fail
  refine (YNew_any 8 64 a 2 own1 w1).mono ?_
  rintro e w2 ⟨rfl, hB, ev, hY⟩
  have hA2 := hA.ext (Ext.of_below (M := fun _ => False) hB own1 2) (by simp)
  have H2 := Lib.hid (H1.out.trans (Ext.of_below hB own1 2))
  generalize ow own1 w1.heap.size 2 = own2 at *
  generalize w1.heap.size + 1 = y at *
  clear hB H1 hA
  go_wp2_with fail
  go_loopg [29] n (fun g iv wr => Or1 w a y n ev g iv wr)
  case atStart => exact ⟨_, 0, _, rfl, by omega, OrIn.fresh, hA2, hY, H2.out⟩
  case round =>
    clear hA2 hY H2
    obtain ⟨own, i, Y, rfl, hi, hin, hA, hY, hE⟩ := hrel
    have HE := Lib.hid hE
    clear hE
    have hnow := hin.now
    by_cases hlt : i < n
    · have hlt2 : (i : Int) < n := by omega
      have c0 := hp.at_ (HE.out.below (by simp)) hlt (show 0 < 1 by omega)
      rw [Nat.mul_one, Nat.add_zero] at c0
      generalize f i 0 = t at *
      go_wp2_with fail
      refine (Enter_any hY (by omega) t).mono ?_
      rintro e w3 ⟨rfl, hE3, hY3⟩
      have hA3 := hA.ext hE3 (by decide)
      have H3 := Lib.hid (HE.out.trans (hE3.mono (M' := fun c => c ≠ 0) (by simp)))
      clear hE3 hY hA HE
      go_wp2_with fail
      go_roundg (n - (i + 1))
      case measure => omega
      case rel => exact ⟨_, i + 1, _, by go_num, by omega, hin.enter t, hA3, hY3, H3.out⟩
    · obtain rfl : i = n := by omega
      have hc : ∃ c, c = orC Y := ⟨_, rfl⟩
      obtain ⟨c, hc⟩ := hc
      have hci := orC_inside Y
      rw [← hc] at hci
      have HC := Lib.hid hc
      clear hc
      have HN := Lib.hid hin
      have HOK := Lib.hid hY.ok
      have hrl : Y.inside.length ≤ 9 := by have := insFrom_len Y.ent 0; rw [hin.len] at this; exact this
      go_wp2_with fail
      refine (Inside_any hY 3).mono ?_
      rintro e w3 ⟨iv, rfl, hI, hB⟩
      have hA3 := hA.ext (Ext.of_below (M := fun _ => False) hB own 3) (by simp)
      have hY3 := hY.ext (Ext.of_below (M := fun _ => False) hB own 3) (by simp)
      have H3 := Lib.hid (HE.out.trans (Ext.of_below hB own 3))
      generalize ow own wr.heap.size 3 = own3 at *
      clear hB hY hA HE hin
      go_wp2_with fail
      obtain ⟨ra, rc, rfl⟩ := hI.shape
      go_loopg [10, 11] 5 (fun g bv kv wr => Or2 w a y ev (.slice ra Y.inside.length rc) Y c g bv kv wr)
      case atStart =>
        have hX : ∀ M, Ext M w3 (w3.alloc (.cells #[] 3)) own3 (ow own3 w3.heap.size 4) := fun M => (Ext.refl.ow _).alloc _
        have hlim := HN.out.lim
        have hv0 : orV c 0 = AV.fresh 3000 := by cases c <;> kernel_rfl
        have hy0 : orY Y c 0 = Y := by
          cases Y; cases c <;> simp_all [orY, orLim]
        refine ⟨ow own3 w3.heap.size 4, 0, .slice none 0 0, rfl, by omega, ?_, ?_, hI.ext (hX (fun _ => False)) (by simp), ?_, H3.out.trans (hX _)⟩
        · rw [hv0]; exact hA3.ext (hX (fun _ => False)) (by simp)
        · rw [hy0]; exact hY3.ext (hX (fun _ => False)) (by simp)
        · rw [hy0]; unfold YV.waiting; rw [hlim]; exact Row.empty _ _ _ _
      case round =>
        clear hA3 hY3 hI H3
        obtain ⟨own, j, lv, rfl, hj, hA, hY, hI, hW, hE⟩ := hrel
        have HE := Lib.hid hE
        clear hE
        have hok := hY.ok
        by_cases hlt : j < 5
        · have hlt2 : (j : Int) < 5 := by omega
          obtain ⟨e1, e2, e3, e4, e5⟩ := orV_alloc c j hlt
          have hf1 := orLim_few Y.now c j (by omega)
          have HST := Lib.hid (or_step HN.out HOK.out c HC.out j hlt)
          have hl5 : (orY Y c j).limbo.length ≤ 5 := Nat.le_trans hf1 (by omega)
          have hn5 : (orY Y c j).now < 1000000000000000 := by show Y.now + j < _; omega
          have HW5 := Lib.hid (orY_waiting Y c j hlt)
          have hwl : (orY Y c j).waiting.length ≤ 5 := by unfold YV.waiting; rw [List.length_map]; exact hl5
          go_wp2_with fail
          refine (ar_as (r' := .tuple #[.int .i64 ((j : Int) + 1), .int .i64 0]) (V' := (orV c j).alloc 2) (Alloc_any hA (by omega) 2) (by rw [e1, if_pos rfl, e3]) rfl).mono ?_
          rintro e w4 ⟨rfl, own4, hE4, hA4⟩
          have hY4 := hY.ext hE4 (by decide)
          have hI4 := hI.ext hE4 (by decide)
          have hW4 := hW.ext hE4 (by decide)
          have H4 := Lib.hid (HE.out.trans (hE4.mono (M' := fun c => c ≠ 0) (by simp)))
          have HRT := Lib.hid (sw_as (Retire_any hA4 hY4 (by decide) (by rw [e5]; omega) (by omega) hn5 (1 + (j : Int)) ((j : Int) + 1)) HST.out.2.1 HST.out.2.2 (by rw [HST.out.1] : (Value.int .i64 _) = .int .i64 0))
          clear hE4 hA hY hI hW HE hA4 hY4 e1 e2 e3 e4 e5 hf1 hl5 hn5 hok HST
          go_wp2_with fail
          refine HRT.out.mono ?_
          rintro e w5 ⟨lv5, own5, rfl, hE5, hA5, hY5⟩
          have hI5 := hI4.ext hE5 (by decide)
          have hW5 := hW4.ext hE5 (by decide)
          have H5 := Lib.hid (H4.out.trans (hE5.mono (M' := fun c => c ≠ 0) (by intro c h; rcases h with rfl | rfl <;> decide)))
          clear hE5 hI4 hW4 H4 HRT
          cases c with
          | true =>
            have hpos : (0 : Int) < Y.inside.length := by have := of_decide_eq_true hci.symm; omega
            have HW6 := Lib.hid (show (orY Y true (j + 1)).waiting = (orY Y true j).waiting ++ [(j : Int) + 1] by rw [HW5.out]; rfl)
            clear HW5 hci
            go_wp2_with (at_builtin; refine wpList_append_irow rfl _ _ rfl _ rfl hW5 (by omega) rfl (by simp) ?_; intro v1 wa owna hra hEa)
            have hA6 := hA5.ext hEa (by decide)
            go_roundg (5 - (j + 1))
            case measure => omega
            case rel => exact ⟨owna, j + 1, lv5, by go_num, by omega, hA5.ext hEa (by decide), hY5.ext hEa (by decide), hI5.ext hEa (by decide), by rw [HW6.out, List.length_append]; exact hra, H5.out.trans (hEa.mono (by simp))⟩
          | false =>
            have hpos : ¬ (0 : Int) < Y.inside.length := by have := of_decide_eq_false hci.symm; omega
            have HW6 := Lib.hid (show (orY Y false (j + 1)).waiting = [(j : Int) + 1] by rw [HW5.out]; rfl)
            clear HW5 hci
            go_wp2_with fail
            have hX : ∀ M, Ext M w5 (w5.alloc (.cells #[.int .i64 ((j : Int) + 1)] 3)) own5 (ow own5 w5.heap.size 4) := fun M => (Ext.refl.ow _).alloc _
            go_roundg (5 - (j + 1))
            case measure => omega
            case rel => exact ⟨ow own5 w5.heap.size 4, j + 1, lv5, by go_num, by omega, hA5.ext (hX (fun _ => False)) (by simp), hY5.ext (hX (fun _ => False)) (by simp), hI5.ext (hX (fun _ => False)) (by simp), by rw [HW6.out]; exact Row.one _ _ _ _ _, H5.out.trans (hX _)⟩
        · obtain rfl : j = 5 := by omega
          have hl5 : (orY Y c 5).limbo.length ≤ 5 := orLim_few Y.now c 5 (by omega)
          obtain ⟨bb, hIB⟩ := Ints.of_row (xs := (orY Y c 5).waiting) Try.underlying33 parts_intL.choose_spec.1 parts_intL.choose_spec.2.2.1 hW
          go_wp2_with fail
          refine (Waiting_any hY (by omega) 5).mono ?_
          rintro e w4 ⟨wv, rfl, hWv, hB⟩
          obtain ⟨bw, hIW⟩ := Ints.of_row (xs := (orY Y c 5).waiting) Try.underlying33 parts_intL.choose_spec.1 parts_intL.choose_spec.2.2.1 hWv
          have hA4 := hA.ext (Ext.of_below (M := fun _ => False) hB own 5) (by simp)
          have hY4 := hY.ext (Ext.of_below (M := fun _ => False) hB own 5) (by simp)
          have hI4 := hI.ext (Ext.of_below (M := fun _ => False) hB own 5) (by simp)
          have H4 := Lib.hid (HE.out.trans (Ext.of_below hB own 5))
          have hIB4 := hIB.below hB
          generalize ow own wr.heap.size 5 = own4 at *
          clear hB hA hY hI hW HE hWv hIB
          go_wp2_with fail
          refine (SameInts_any hIW hIB4 (by unfold YV.waiting; rw [List.length_map]; omega)).mono ?_
          rintro e w5 ⟨rfl, nd, rfl⟩
          have hd : decide ((orY Y c 5).waiting = (orY Y c 5).waiting) = true := by simp
          rw [hd]
          have hX : ∀ M, Ext M w4 (w4.drewN nd) own4 own4 := fun M => Ext.refl.drewN nd
          have hA5 := hA4.ext (hX (fun _ => False)) (by simp)
          have hY5 := hY4.ext (hX (fun _ => False)) (by simp)
          have hI5 := hI4.ext (hX (fun _ => False)) (by simp)
          have H5 := Lib.hid (H4.out.trans (hX _))
          generalize w4.drewN nd = w5 at *
          clear hA4 hY4 hI4 H4 hX hIW hIB4 hd
          have hu0 := HU.out
          obtain ⟨xs, hxs⟩ : ∃ xs, xs = (List.range m).map (fun i => f2 i 0) ++ [1, 2, 3, 4, 5, 6, 7, 8] := ⟨_, rfl⟩
          have hxm : xs.length = m + 8 := by rw [hxs]; simp
          have HXS := Lib.hid (show ∀ t : Int, 1 ≤ t → t ≤ 8 → t ∈ xs from fun t h1 h8 => by
            rw [hxs]
            refine List.mem_append_right _ ?_
            simp only [List.mem_cons, List.not_mem_nil, or_false]; omega)
          have HXE := Lib.hid hxs
          have HLX := Lib.hid hxm
          clear hxs
          have hX5 : ∀ M, Ext M w5 (w5.alloc (.cells #[] 3)) own4 (ow own4 w5.heap.size 6) := fun M => (Ext.refl.ow _).alloc _
          have hR0 : Row (w5.alloc (.cells #[] 3)) (ow own4 w5.heap.size 6) 6 3 1 (.slice (some ⟨w5.heap.size, 0, none⟩) 0 0) 0 (irow []) := Row.empty _ _ _ _
          have HC2 := Lib.hid (show ∀ i, i < m → (w5.alloc (.cells #[] 3)).cell? ⟨b2, off2 + i, none⟩ = some (.int .i64 (f2 i 0)) from fun i hi => by
            have := hq.at_ ((H5.out.trans (hX5 _)).below (by simp)) hi (show 0 < 1 by omega)
            rwa [Nat.mul_one, Nat.add_zero] at this)
          go_wp2_with (at_builtin; first | (refine wpList_append_recs rfl _ _ rfl rfl hR0 rfl hu0 (fun i => f2 i 0) HC2.out (by omega) ?_; intro v1 wa owna hra hEa; rw [Nat.zero_add, List.nil_append] at hra; obtain ⟨q1, q2, rfl⟩ := hra.shape) | (refine wpList_append_news (n := m) rfl _ _ rfl [1, 2, 3, 4, 5, 6, 7, 8] _ rfl rfl hra rfl rfl rfl (by simp only [List.length_cons, List.length_nil]; omega) ?_; intro v2 wb ownb hrb0 hEb; have hrb : Row wb ownb 6 3 1 v2 xs.length (irow xs) := (by rw [HLX.out, HXE.out]; exact hrb0); clear hrb0; obtain ⟨q3, q4, rfl⟩ := hrb.shape))
          have hE6 : ∀ M : Nat → Prop, M 6 → Ext M w5 wb own4 ownb := fun M h6 => ((hX5 M).trans (hEa.mono (M' := M) (by intro c hc; subst hc; exact h6))).trans (hEb.mono (M' := M) (by intro c hc; subst hc; exact h6))
          have hA6 := hA5.ext (hE6 (fun c => c = 6) rfl) (by decide)
          have hY6 := hY5.ext (hE6 (fun c => c = 6) rfl) (by decide)
          have hI6 := hI5.ext (hE6 (fun c => c = 6) rfl) (by decide)
          have H6 := Lib.hid (H5.out.trans (hE6 (fun c => c ≠ 0) (by decide)))
          clear hA5 hY5 hI5 H5 hE6 hEa hEb hra hR0 HC2 hX5
          obtain ⟨N0, hN0⟩ : ∃ N0, N0 = Y.now := ⟨_, rfl⟩
          have HN0 := Lib.hid (show 0 ≤ N0 from by rw [hN0]; exact HOK.out.now.1)
          have hN0i : N0 ≤ i := by omega
          go_loopg [9, 14, 81] xs.length (fun g sv dv iv wr => Or3 w a y ev (.slice q3 xs.length q4) xs N0 g sv dv iv wr)
          case atStart =>
            have hM := OrMid.start HN.out HOK.out c
            rw [← hN0] at hM
            exact ⟨ownb, 0, lv, _, _, Y.inside, rfl, by omega, rfl, hM, (fun j _ hj => by omega), (fun h => by omega), by have h1 := hM.few; have h0 : (orV c 5).faults = 0 := (by cases c <;> decide); omega, by show Y.now + (5 : Nat) ≤ _; omega, hA6, hY6, hI6, hrb, H6.out⟩
          case round =>
            clear hA6 hY6 hI6 hrb H6 hu0
            obtain ⟨own, i, lv, V, Y, rem, rfl, hi, rfl, hM, hdone, hnil, hfa, hnw, hA, hY, hI, hL, hE⟩ := hrel
            have HE := Lib.hid hE
            clear hE
            obtain ⟨ra, rc, rfl⟩ := hI.shape
            by_cases hlt : i < xs.length
            · have hlt2 : (i : Int) < xs.length := by omega
              obtain ⟨gl, rfl, hg, _, _, hx, hc⟩ := Row.irow_at hL hlt
              have HDN := Lib.hid hdone
              have HNL := Lib.hid hnil
              clear hdone hnil
              obtain ⟨br, hIr⟩ := Ints.of_row (xs := rem) Try.underlying33 parts_intL.choose_spec.1 parts_intL.choose_spec.2.2.1 hI
              have hrl : rem.length ≤ 8 := hM.short
              have HXI := Lib.hid (show ∀ j (hj : j < xs.length), j < i + 1 → (j < i ∨ xs[j] = xs[i]) from fun j hj hji => by
                by_cases h : j < i
                · exact .inl h
                · obtain rfl : j = i := by omega
                  exact .inr rfl)
              generalize xs[i] = t at *
              by_cases ht : t ∈ rem
              · have hcon : rem.contains t = true := by simpa using ht
                go_wp2_with fail
                refine (Has_any hIr (by omega) t).mono ?_
                rintro e w1 ⟨rfl, rfl⟩
                rw [hcon]
                go_wp2_with fail
                refine (Inside_any hY 7).mono ?_
                rintro e w2 ⟨nv, rfl, hNv, hB⟩
                obtain ⟨bn, hNr⟩ := Ints.of_row (xs := Y.inside) Try.underlying33 parts_intL.choose_spec.1 parts_intL.choose_spec.2.2.1 hNv
                have hA2 := hA.ext (Ext.of_below (M := fun _ => False) hB own 7) (by simp)
                have hY2 := hY.ext (Ext.of_below (M := fun _ => False) hB own 7) (by simp)
                have hI2 := hI.ext (Ext.of_below (M := fun _ => False) hB own 7) (by simp)
                have hL2 := hL.ext (Ext.of_below (M := fun _ => False) hB own 7) (by simp)
                have H2 := Lib.hid (HE.out.trans (Ext.of_below hB own 7))
                have hin9 : Y.inside.length ≤ 9 := by have := insFrom_len Y.ent 0; rw [hM.len] at this; exact this
                clear hB hNv hA hY hI hL HE hIr
                generalize ow own wr.heap.size 7 = own2 at *
                go_wp2_with fail
                refine (Has_any hNr (by omega) t).mono ?_
                rintro e w3 ⟨rfl, rfl⟩
                rw [hM.inside ht]
                clear hNr
                obtain ⟨l1, hM3, l3, l4, l5⟩ := hM.leave HN0.out ht
                have L3 := Lib.hid l3
                have L4 := Lib.hid l4
                go_wp2_with fail
                refine (yp_as (Leave_any hY2 t) rfl l1).mono ?_
                rintro e w4 ⟨rfl, hE4, hY4⟩
                have hA4 := hA2.ext hE4 (by decide)
                have hI4 := hI2.ext hE4 (by decide)
                have hL4 := hL2.ext hE4 (by decide)
                have H4 := Lib.hid (H2.out.trans (hE4.mono (M' := fun c => c ≠ 0) (by simp)))
                clear hE4 hA2 hY2 hI2 hL2 H2
                obtain ⟨br, hIr⟩ := Ints.of_row (xs := rem) Try.underlying33 parts_intL.choose_spec.1 parts_intL.choose_spec.2.2.1 hI4
                go_wp2_with fail
                refine (Without_any (own := own2) hIr (by omega) t 3).mono ?_
                rintro e w5 ⟨rv, rfl, hR5, hB⟩
                have hA5 := hA4.ext (Ext.of_below (M := fun _ => False) hB own2 3) (by simp)
                have hY5 := hY4.ext (Ext.of_below (M := fun _ => False) hB own2 3) (by simp)
                have hL5 := hL4.ext (Ext.of_below (M := fun _ => False) hB own2 3) (by simp)
                have H5 := Lib.hid (H4.out.trans (Ext.of_below hB own2 3))
                have HDN2 := Lib.hid (show ∀ j (hj : j < xs.length), j < i + 1 → xs[j] ∉ rem.filter (fun x => x != t) from fun j hj hji hm => by
                  obtain ⟨m1, m2⟩ := List.mem_filter.1 hm
                  rcases HXI.out j hj hji with h | h
                  · exact HDN.out j hj h m1
                  · rw [h] at m2; simp at m2)
                clear hB hA4 hY4 hI4 hL4 H4 hIr
                generalize ow own2 w4.heap.size 3 = own5 at *
                generalize hrm : rem.filter (fun x => x != t) = rem2 at *
                have hl5 : (rem.length : Int) - 1 = rem2.length := by omega
                have hnw2 : (Y.leave t).now < 1000000000000000 := by
                  have : (Y.leave t).now = Y.now := by unfold YV.leave; split <;> rfl
                  rw [this]; omega
                go_wp2_with fail
                refine (Enter_any hY5 hnw2 t).mono ?_
                rintro e w6 ⟨rfl, hE6, hY6⟩
                have hA6 := hA5.ext hE6 (by decide)
                have hI6 := hR5.ext hE6 (by decide)
                have hL6 := hL5.ext hE6 (by decide)
                have H6 := Lib.hid (H5.out.trans (hE6.mono (M' := fun c => c ≠ 0) (by simp)))
                clear hE6 hA5 hY5 hR5 hL5 H5 l1 l3 l4 l5 hrm
                have hdone2 := HDN2.out
                have hfa2 : V.faults + ((Y.leave t).enter t).limbo.length ≤ 5 := by rw [L3.out]; exact hfa
                have hnw3 : ((Y.leave t).enter t).now ≤ N0 + 5 + i + 1 := by rw [L4.out]; omega
                clear hM
                have hM := hM3
                generalize (Y.leave t).enter t = Y2 at *
                by_cases hr : rem2 = []
                · subst hr
                  have hr : ([] : List Int) = [] := rfl
                  have HSW := Lib.hid (hM.sweep V)
                  have hlen0 : (([] : List Int).length : Int) = 0 := by simp [hr]
                  have hkl : (((Y2).limbo.length : Int) - (keptL Y2 (Y2).limbo).length) = (Y2).limbo.length := by rw [HSW.out.2.2.2.1 hr]; simp
                  have hfew := hM.few
                  have hMS := HSW.out.1
                  have hlim2 : (YV.sweep Y2).limbo.length ≤ 5 := hMS.few
                  have hb1 : ((([] : List Int).length : Int) == 0) = true := by simp [hr]
                  have hpos : ¬ (0 : Int) < ([] : List Int).length := by simp [hr]
                  go_wp2_with fail
                  refine (sw_as (Sweep_any hA6 hY6 (by decide) (by omega) (by omega)) rfl rfl (by rw [hkl])).mono ?_
                  rintro e w8 ⟨lv8, own8, rfl, hE8, hA8, hY8⟩
                  have hI8 := hI6.ext hE8 (by decide)
                  have hL8 := hL6.ext hE8 (by decide)
                  have H8 := Lib.hid (H6.out.trans (hE8.mono (M' := fun c => c ≠ 0) (by intro c h; rcases h with rfl | rfl <;> decide)))
                  clear hE8 hA6 hY6 hI6 hL6 H6
                  have hsl : (YV.sweep Y2).limbo = [] := HSW.out.2.2.2.1 hr
                  have hsw0 : (YV.sweep Y2).waiting = [] := by unfold YV.waiting; rw [hsl]; rfl
                  go_wp2_with fail
                  refine (Waiting_any hY8 (by omega) 7).mono ?_
                  rintro e w9 ⟨wv, rfl, hWv, hB⟩
                  rw [hsw0] at hWv
                  obtain ⟨qa, qc, rfl⟩ := hWv.shape
                  have hA9 := hA8.ext (Ext.of_below (M := fun _ => False) hB own8 7) (by simp)
                  have hY9 := hY8.ext (Ext.of_below (M := fun _ => False) hB own8 7) (by simp)
                  have hI9 := hI8.ext (Ext.of_below (M := fun _ => False) hB own8 7) (by simp)
                  have hL9 := hL8.ext (Ext.of_below (M := fun _ => False) hB own8 7) (by simp)
                  have H9 := Lib.hid (H8.out.trans (Ext.of_below hB own8 7))
                  clear hB hWv hA8 hY8 hI8 hL8 H8
                  go_wp2_with fail
                  go_roundg (xs.length - (i + 1))
                  case measure => omega
                  case rel => exact ⟨_, i + 1, lv8, _, _, ([] : List Int), by go_num, by omega, by first | rfl | (congr 1; omega), HSW.out.1, hdone2, (fun _ _ => hsl), by have := HSW.out.2.2.2.2; omega, by have := HSW.out.2.1; omega, hA9, hY9, hI9, hL9, H9.out⟩
                · skip
                  have HSW := Lib.hid (hM.sweep V)
                  have hlen0 : (rem2.length : Int) ≠ 0 := by intro h; exact hr (List.length_eq_zero_iff.1 (by omega))
                  have hkl : (((Y2).limbo.length : Int) - (keptL Y2 (Y2).limbo).length) = 0 := by rw [HSW.out.2.2.1 hr]; omega
                  have hfew := hM.few
                  have hMS := HSW.out.1
                  have hlim2 : (YV.sweep Y2).limbo.length ≤ 5 := hMS.few
                  have hb1 : ((rem2.length : Int) == 0) = false := by simp; exact hr
                  have hpos : (0 : Int) < rem2.length := by omega
                  go_wp2_with fail
                  refine (sw_as (Sweep_any hA6 hY6 (by decide) (by omega) (by omega)) rfl rfl (by rw [hkl])).mono ?_
                  rintro e w8 ⟨lv8, own8, rfl, hE8, hA8, hY8⟩
                  have hI8 := hI6.ext hE8 (by decide)
                  have hL8 := hL6.ext hE8 (by decide)
                  have H8 := Lib.hid (H6.out.trans (hE8.mono (M' := fun c => c ≠ 0) (by intro c h; rcases h with rfl | rfl <;> decide)))
                  clear hE8 hA6 hY6 hI6 hL6 H6
                  go_wp2_with fail
                  go_roundg (xs.length - (i + 1))
                  case measure => omega
                  case rel => exact ⟨_, i + 1, lv8, _, _, rem2, by go_num, by omega, by first | rfl | (congr 1; omega), HSW.out.1, hdone2, (fun _ h => absurd h hr), by have := HSW.out.2.2.2.2; omega, by have := HSW.out.2.1; omega, hA8, hY8, hI8, hL8, H8.out⟩
              · have hcon : rem.contains t = false := by simpa using ht
                have hdone2 : ∀ j (hj : j < xs.length), j < i + 1 → xs[j] ∉ rem := fun j hj hji hm => by
                  rcases HXI.out j hj hji with h | h
                  · exact HDN.out j hj h hm
                  · rw [h] at hm; exact ht hm
                go_wp2_with fail
                refine (Has_any hIr (by omega) t).mono ?_
                rintro e w1 ⟨rfl, rfl⟩
                rw [hcon]
                clear hIr
                by_cases hr : rem = []
                · subst hr
                  have hr : ([] : List Int) = [] := rfl
                  have HSW := Lib.hid (hM.sweep V)
                  have hlen0 : (([] : List Int).length : Int) = 0 := by simp [hr]
                  have hkl : (((Y).limbo.length : Int) - (keptL Y (Y).limbo).length) = (Y).limbo.length := by rw [HSW.out.2.2.2.1 hr]; simp
                  have hfew := hM.few
                  have hMS := HSW.out.1
                  have hlim2 : (YV.sweep Y).limbo.length ≤ 5 := hMS.few
                  have hb1 : ((([] : List Int).length : Int) == 0) = true := by simp [hr]
                  have hpos : ¬ (0 : Int) < ([] : List Int).length := by simp [hr]
                  go_wp2_with fail
                  refine (sw_as (Sweep_any hA hY (by decide) (by omega) (by omega)) rfl rfl (by rw [hkl])).mono ?_
                  rintro e w8 ⟨lv8, own8, rfl, hE8, hA8, hY8⟩
                  have hI8 := hI.ext hE8 (by decide)
                  have hL8 := hL.ext hE8 (by decide)
                  have H8 := Lib.hid (HE.out.trans (hE8.mono (M' := fun c => c ≠ 0) (by intro c h; rcases h with rfl | rfl <;> decide)))
                  clear hE8 hA hY hI hL HE
                  have hsl : (YV.sweep Y).limbo = [] := HSW.out.2.2.2.1 hr
                  have hsw0 : (YV.sweep Y).waiting = [] := by unfold YV.waiting; rw [hsl]; rfl
                  go_wp2_with fail
                  refine (Waiting_any hY8 (by omega) 7).mono ?_
                  rintro e w9 ⟨wv, rfl, hWv, hB⟩
                  rw [hsw0] at hWv
                  obtain ⟨qa, qc, rfl⟩ := hWv.shape
                  have hA9 := hA8.ext (Ext.of_below (M := fun _ => False) hB own8 7) (by simp)
                  have hY9 := hY8.ext (Ext.of_below (M := fun _ => False) hB own8 7) (by simp)
                  have hI9 := hI8.ext (Ext.of_below (M := fun _ => False) hB own8 7) (by simp)
                  have hL9 := hL8.ext (Ext.of_below (M := fun _ => False) hB own8 7) (by simp)
                  have H9 := Lib.hid (H8.out.trans (Ext.of_below hB own8 7))
                  clear hB hWv hA8 hY8 hI8 hL8 H8
                  go_wp2_with fail
                  go_roundg (xs.length - (i + 1))
                  case measure => omega
                  case rel => exact ⟨_, i + 1, lv8, _, _, ([] : List Int), by go_num, by omega, by first | rfl | (congr 1; omega), HSW.out.1, hdone2, (fun _ _ => hsl), by have := HSW.out.2.2.2.2; omega, by have := HSW.out.2.1; omega, hA9, hY9, hI9, hL9, H9.out⟩
                · skip
                  have HSW := Lib.hid (hM.sweep V)
                  have hlen0 : (rem.length : Int) ≠ 0 := by intro h; exact hr (List.length_eq_zero_iff.1 (by omega))
                  have hkl : (((Y).limbo.length : Int) - (keptL Y (Y).limbo).length) = 0 := by rw [HSW.out.2.2.1 hr]; omega
                  have hfew := hM.few
                  have hMS := HSW.out.1
                  have hlim2 : (YV.sweep Y).limbo.length ≤ 5 := hMS.few
                  have hb1 : ((rem.length : Int) == 0) = false := by simp; exact hr
                  have hpos : (0 : Int) < rem.length := by omega
                  go_wp2_with fail
                  refine (sw_as (Sweep_any hA hY (by decide) (by omega) (by omega)) rfl rfl (by rw [hkl])).mono ?_
                  rintro e w8 ⟨lv8, own8, rfl, hE8, hA8, hY8⟩
                  have hI8 := hI.ext hE8 (by decide)
                  have hL8 := hL.ext hE8 (by decide)
                  have H8 := Lib.hid (HE.out.trans (hE8.mono (M' := fun c => c ≠ 0) (by intro c h; rcases h with rfl | rfl <;> decide)))
                  clear hE8 hA hY hI hL HE
                  go_wp2_with fail
                  go_roundg (xs.length - (i + 1))
                  case measure => omega
                  case rel => exact ⟨_, i + 1, lv8, _, _, rem, by go_num, by omega, by first | rfl | (congr 1; omega), HSW.out.1, hdone2, (fun _ h => absurd h hr), by have := HSW.out.2.2.2.2; omega, by have := HSW.out.2.1; omega, hA8, hY8, hI8, hL8, H8.out⟩
            · obtain rfl : i = xs.length := by omega
              have hr : rem = [] := by
                cases rem with
                | nil => rfl
                | cons t l =>
                  have h18 := hM.rng t (by simp)
                  obtain ⟨j, hj, e⟩ := List.mem_iff_getElem.1 (HXS.out t h18.1 h18.2)
                  exact absurd (show xs[j] ∈ t :: l by rw [e]; simp) (hdone j hj hj)
              subst hr
              have hsl : Y.limbo = [] := hnil (by omega) rfl
              have hsw0 : Y.waiting = [] := by unfold YV.waiting; rw [hsl]; rfl
              go_wp2_with fail
              refine (Waiting_any hY (by rw [hsl]; simp) 7).mono ?_
              rintro e w9 ⟨wv, rfl, hWv, hB⟩
              rw [hsw0] at hWv
              obtain ⟨qa, qc, rfl⟩ := hWv.shape
              have H9 := Lib.hid (HE.out.trans (Ext.of_below hB own 7))
              clear hB hWv hA hY hI hL HE
              go_wp2_with fail
              go_ret
              exact ⟨rfl, H9.out.below (by simp)⟩
end Go.Proofs.Ytdomehpdjnfkeaa
