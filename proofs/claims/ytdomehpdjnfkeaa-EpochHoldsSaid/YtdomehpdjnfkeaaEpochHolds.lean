/- EpochHolds: a block that is retired while a thread is inside is live until that thread leaves. -/
import Derived.Test.YtdomehpdjnfkeaaEpochPure
import Derived.Test.YtdomehpdjnfkeaaEpochLaw
import Derived.Test.YtdomehpdjnfkeaaInts
set_option maxRecDepth 20000
set_option linter.unusedVariables false
set_option linter.unusedSimpArgs false
namespace Go.Proofs.Ytdomehpdjnfkeaa
open Go.RowKit Go.PM

theorem mem_insFrom (l : List Int) : ∀ (i : Nat) (t : Int), t ∈ insFrom i l ↔ ∃ (j : Nat) (h : j < l.length), t = ((i + j : Nat) : Int) ∧ 0 < l[j] := by
  induction l with
  | nil => intro i t; simp [insFrom]
  | cons x l ih =>
    intro i t
    have e : (∃ (j : Nat) (h : j < (x :: l).length), t = ((i + j : Nat) : Int) ∧ 0 < (x :: l)[j]) ↔ (t = (i : Int) ∧ 0 < x) ∨ ∃ (j : Nat) (h : j < l.length), t = ((i + 1 + j : Nat) : Int) ∧ 0 < l[j] := by
      constructor
      · rintro ⟨j, hj, h1, h2⟩
        cases j with
        | zero => exact .inl ⟨by simpa using h1, by simpa using h2⟩
        | succ j => exact .inr ⟨j, by simpa using hj, by rw [h1]; congr 1; omega, by simpa using h2⟩
      · rintro (⟨h1, h2⟩ | ⟨j, hj, h1, h2⟩)
        · exact ⟨0, by simp, by simpa using h1, by simpa using h2⟩
        · exact ⟨j + 1, by simpa using hj, by rw [h1]; congr 1; omega, by simpa using h2⟩
    rw [e, ← ih (i + 1) t, show insFrom i (x :: l) = if 0 < x then (i : Int) :: insFrom (i + 1) l else insFrom (i + 1) l from rfl]
    split
    · rename_i h; simp [h]
    · rename_i h; simp [h]
theorem held_iff (Y : YV) (p : Int × Int × Int) : Y.held p = true ↔ ∃ x ∈ Y.ent, 0 < x ∧ x < p.2.2 := by
  unfold YV.held holdsB
  simp [List.any_eq_true]
theorem e4Y_bound (Y : YV) (V : AV) (kd t b : Int) : (e4Y Y V kd t b).bound = Y.bound ∧ (e4Y Y V kd t b).ent.length = Y.ent.length := by
  unfold e4Y YV.enter YV.leave YV.retire YV.sweep YV.wait
  constructor
  all_goals
    repeat' split
    all_goals first | rfl | exact List.length_set ..
/-! ### a block that does not wait -/
structure Fr (Y : YV) (V : AV) : Prop where
  find : V.find 1 = some [0, 0, 0]
  no : ∀ p ∈ Y.limbo, p.1 ≠ 1
theorem enter_limbo (Y : YV) (t : Int) : (Y.enter t).limbo = Y.limbo ∧ (Y.enter t).bound = Y.bound ∧ (Y.enter t).ent.length = Y.ent.length := by
  unfold YV.enter
  split
  · exact ⟨rfl, rfl, List.length_set ..⟩
  · exact ⟨rfl, rfl, rfl⟩
theorem Fr.sweep {Y : YV} {V : AV} (h : Fr Y V) : Fr Y.sweep (dropsV Y V Y.limbo) :=
  ⟨by rw [dropsV_find Y 1 Y.limbo V fun p hp _ => h.no p hp]; exact h.find, fun p hp => h.no p (kept_mem.1 hp).1⟩
theorem Fr.retire {Y : YV} {V : AV} (h : Fr Y V) (t : Int) {b : Int} (hb : b ≠ 1) : Fr (Y.retire V t b) (retireV Y V t b) := by
  unfold YV.retire retireV
  split
  · exact h
  · split
    · exact h
    · split
      · split
        · exact h.sweep
        · refine ⟨h.sweep.find, fun p hp => ?_⟩
          have hp : p ∈ Y.sweep.limbo ++ [(b, t, Y.sweep.now + 1)] := hp
          rcases List.mem_append.1 hp with hp | hp
          · exact h.sweep.no p hp
          · rw [List.mem_singleton] at hp
            subst hp
            exact hb
      · exact ⟨by rw [touch_find]; exact h.find, h.no⟩
theorem Fr.step {Y : YV} {V : AV} (h : Fr Y V) (kd t : Int) {b : Int} (hb : b ≠ 1) : Fr (e4Y Y V kd t b) (e4V Y V kd t b) := by
  unfold e4Y e4V
  by_cases h1 : kd = 1
  · subst h1; exact ⟨h.find, fun p hp => h.no p (by rw [← (enter_limbo Y t).1]; exact hp)⟩
  by_cases h2 : kd = 2
  · subst h2; exact ⟨h.find, fun p hp => h.no p (by rw [← (leave_limbo Y t).1]; exact hp)⟩
  by_cases h3 : kd = 3
  · subst h3; exact h.retire t hb
  by_cases h4 : kd = 4
  · subst h4; exact h.sweep
  by_cases h5 : kd = 5
  · subst h5; exact ⟨alloc_find b h.find, h.no⟩
  simp only [if_neg h1, if_neg h2, if_neg h3, if_neg h4, if_neg h5]
  exact h
/-! ### the thread comes in, and the block is retired -/
theorem enter_ent (Y : YV) (T : Int) (j : Nat) (hj : (j : Int) ≠ T) : (Y.enter T).ent.getD j 0 = Y.ent.getD j 0 := by
  unfold YV.enter
  split
  · rename_i he
    have hT : 1 ≤ T := by
      unfold YV.enterErr at he
      split at he
      · cases he
      · rename_i hb
        unfold YV.bad at hb
        simp at hb
        omega
    show (Y.ent.set T.toNat (Y.now + 1)).getD j 0 = _
    rw [List.getD_eq_getElem?_getD, List.getElem?_set_ne (by omega), ← List.getD_eq_getElem?_getD]
  · rfl
theorem enter_in {Y : YV} (hok : Y.Ok) (hl : Y.ent.length = 9) {t : Nat} (ht : 1 ≤ t ∧ t ≤ 8) : 0 < (Y.enter t).ent.getD t 0 ∧ (Y.enter t).ent.getD t 0 ≤ (Y.enter t).now := by
  have hb : Y.bad t = false := by unfold YV.bad; simp; omega
  have hn := hok.now
  by_cases hs : 0 < Y.since t
  · have he : Y.enterErr t = 40 := by unfold YV.enterErr; rw [hb, if_pos hs]; rfl
    have hY : Y.enter t = Y := by unfold YV.enter; rw [he]; rfl
    rw [hY]
    have h2 : Y.since t = Y.ent.getD t 0 := by unfold YV.since; rw [Int.toNat_natCast]
    rw [h2] at hs
    refine ⟨hs, ?_⟩
    have hj : t < Y.ent.length := by omega
    rw [List.getD_eq_getElem?_getD, List.getElem?_eq_getElem hj, Option.getD_some]
    exact (hok.since _ (List.getElem_mem hj)).2
  · have he : Y.enterErr t = 0 := by unfold YV.enterErr; rw [hb, if_neg hs]; rfl
    have hY : Y.enter t = { Y with now := Y.now + 1, ent := Y.ent.set t (Y.now + 1) } := by unfold YV.enter; rw [if_pos he, Int.toNat_natCast]
    rw [hY]
    have h3 : (Y.ent.set t (Y.now + 1)).getD t 0 = Y.now + 1 := by rw [List.getD_eq_getElem?_getD, List.getElem?_set_self (by omega)]; rfl
    show 0 < (Y.ent.set t (Y.now + 1)).getD t 0 ∧ (Y.ent.set t (Y.now + 1)).getD t 0 ≤ Y.now + 1
    rw [h3]
    omega
theorem in_inside {Y : YV} {t : Nat} (h : 0 < Y.ent.getD t 0) : Y.inside.contains (t : Int) = true := by
  have hj : t < Y.ent.length := by
    rcases Nat.lt_or_ge t Y.ent.length with h2 | h2
    · exact h2
    · rw [List.getD_eq_getElem?_getD, List.getElem?_eq_none h2] at h; simp at h
  rw [List.getD_eq_getElem?_getD, List.getElem?_eq_getElem hj, Option.getD_some] at h
  simp only [List.contains_eq_mem, decide_eq_true_eq]
  exact (mem_insFrom _ _ _).2 ⟨t, hj, by simp, h⟩
/-- The block 1 waits, held by the thread t. -/
structure Hd (t : Nat) (Y : YV) (V : AV) : Prop where
  find : V.find 1 = some [0, 0, 0]
  ex : ∃ p ∈ Y.limbo, p.1 = 1 ∧ 0 < Y.ent.getD t 0 ∧ Y.ent.getD t 0 < p.2.2
theorem held_at {Y : YV} {t : Nat} {p : Int × Int × Int} (h0 : 0 < Y.ent.getD t 0) (h1 : Y.ent.getD t 0 < p.2.2) : Y.held p = true := by
  have hj : t < Y.ent.length := by
    rcases Nat.lt_or_ge t Y.ent.length with h2 | h2
    · exact h2
    · rw [List.getD_eq_getElem?_getD, List.getElem?_eq_none h2] at h0; simp at h0
  rw [held_iff]
  refine ⟨Y.ent[t], List.getElem_mem hj, ?_⟩
  rw [List.getD_eq_getElem?_getD, List.getElem?_eq_getElem hj, Option.getD_some] at h0 h1
  exact ⟨h0, h1⟩
theorem hd_start {i : Int} {Y : YV} {V : AV} (hf : Fr Y V) (hl : Y.ent.length = 9) (hb : Y.bound = 64) (hbd : Bd i Y V) {t by_ : Nat} (hby : 1 ≤ by_ ∧ by_ ≤ 8) (h0 : 0 < Y.ent.getD t 0) (h1 : Y.ent.getD t 0 ≤ Y.now) :
    (Y.retireErr V by_ 1 = 43 ∧ Y.retire V by_ 1 = Y.sweep ∧ Y.sweep.limboN by_ = 64) ∨ (Y.retireErr V by_ 1 = 0 ∧ Hd t (Y.retire V by_ 1) (retireV Y V by_ 1)) := by
  have hbad : Y.bad by_ = false := by unfold YV.bad; simp; omega
  have ha : anyR Y 1 = false := by
    unfold anyR
    rw [List.any_eq_false]
    intro p hp h
    exact hf.no p hp (by simpa using h)
  have hfe : V.freeErr 1 = 0 := by unfold AV.freeErr; rw [hf.find]
  unfold YV.retireErr YV.retire retireV
  simp only [hbad, ha, hfe, Bool.false_eq_true, if_false, if_true]
  cases hfu : Y.full by_ with
  | true =>
    refine .inl ⟨rfl, rfl, ?_⟩
    have h2 := hbd.sweep.cnt by_
    unfold YV.full at hfu
    simp at hfu
    have h3 : Y.sweep.bound = 64 := hb
    omega
  | false =>
    simp only [Bool.false_eq_true, if_false]
    refine .inr ⟨trivial, hf.sweep.find, (1, by_, Y.now + 1), ?_, rfl, h0, by show Y.ent.getD t 0 < Y.now + 1; omega⟩
    exact List.mem_append_right _ (by simp [YV.sweep])
theorem Hd.sweep {i : Int} {t : Nat} {Y : YV} {V : AV} (h : Hd t Y V) (hb : Bd i Y V) : Hd t Y.sweep (dropsV Y V Y.limbo) := by
  obtain ⟨p, hp, h1, h2, h3⟩ := h.ex
  have hh := held_at h2 h3
  refine ⟨?_, p, kept_mem.2 ⟨hp, hh⟩, h1, h2, h3⟩
  rw [dropsV_find Y 1 Y.limbo V fun q hq hqf e => ?_]
  · exact h.find
  · have := map_inj (·.1) hb.nodup hq hp (by show q.1 = p.1; rw [h1, e])
    rw [this, hh] at hqf
    cases hqf
theorem Hd.retire {i : Int} {t : Nat} {Y : YV} {V : AV} (h : Hd t Y V) (hb : Bd i Y V) (T b : Int) : Hd t (Y.retire V T b) (retireV Y V T b) := by
  unfold YV.retire retireV
  split
  · exact h
  · split
    · exact h
    · split
      · split
        · exact h.sweep hb
        · obtain ⟨p, hp, h1, h2, h3⟩ := (h.sweep hb).ex
          exact ⟨(h.sweep hb).find, p, List.mem_append_left _ hp, h1, h2, h3⟩
      · exact ⟨by rw [touch_find]; exact h.find, h.ex⟩
theorem Hd.step {i : Int} {t : Nat} {Y : YV} {V : AV} (h : Hd t Y V) (hb : Bd i Y V) (hl : Y.ent.length = 9) (ht : 1 ≤ t ∧ t ≤ 8) (kd T b : Int) (hk : ¬ (kd = 2 ∧ T = t)) : Hd t (e4Y Y V kd T b) (e4V Y V kd T b) := by
  obtain ⟨p, hp, h1, h2, h3⟩ := h.ex
  unfold e4Y e4V
  by_cases k1 : kd = 1
  · subst k1
    show Hd t (Y.enter T) V
    by_cases hT : (t : Int) = T
    · subst hT
      have hbd : Y.bad t = false := by unfold YV.bad; simp; omega
      have hs : 0 < Y.since t := by unfold YV.since; rw [Int.toNat_natCast]; exact h2
      have he : Y.enterErr t = 40 := by unfold YV.enterErr; rw [hbd, if_pos hs]; rfl
      have hY : Y.enter t = Y := by unfold YV.enter; rw [he]; rfl
      rw [hY]
      exact h
    · exact ⟨h.find, p, by rw [(enter_limbo Y T).1]; exact hp, h1, by rw [enter_ent Y T t hT]; exact h2, by rw [enter_ent Y T t hT]; exact h3⟩
  by_cases k2 : kd = 2
  · subst k2
    show Hd t (Y.leave T) V
    have hT : T ≠ t := fun e => hk ⟨rfl, e⟩
    have he : (Y.leave T).ent.getD t 0 = Y.ent.getD t 0 := by
      by_cases h0 : 0 ≤ T
      · rw [leave_ent Y T h0 t, if_neg (by omega)]
      · have hbd : Y.bad T = true := by unfold YV.bad; simp; omega
        have hle : Y.leaveErr T = 1 := by unfold YV.leaveErr; rw [hbd]; rfl
        unfold YV.leave
        rw [hle]
        rfl
    exact ⟨h.find, p, by rw [(leave_limbo Y T).1]; exact hp, h1, by rw [he]; exact h2, by rw [he]; exact h3⟩
  by_cases k3 : kd = 3
  · subst k3; exact h.retire hb T b
  by_cases k4 : kd = 4
  · subst k4; exact h.sweep hb
  by_cases k5 : kd = 5
  · subst k5; exact ⟨alloc_find b h.find, h.ex⟩
  simp only [if_neg k1, if_neg k2, if_neg k3, if_neg k4, if_neg k5]
  exact h
theorem Hd.size {t : Nat} {Y : YV} {V : AV} (h : Hd t Y V) : V.size 1 = 3 ∧ V.freeErr 1 = 0 ∧ V.touch 1 = V ∧ Y.waiting.contains 1 = true := by
  refine ⟨by unfold AV.size; rw [h.find]; rfl, by unfold AV.freeErr; rw [h.find], by unfold AV.touch; rw [h.find], ?_⟩
  obtain ⟨p, hp, h1, _⟩ := h.ex
  simp only [List.contains_eq_mem, decide_eq_true_eq]
  rw [← h1]
  exact List.mem_map_of_mem (f := (·.1)) hp
theorem gone {Y : YV} {V : AV} (hk : V.Ok) (hz : Zero 9 Y) (hl : Y.ent.length ≤ 9) (h : ∃ p ∈ Y.limbo, p.1 = 1) : (dropsV Y V Y.limbo).find 1 = none := by
  obtain ⟨p, hp, h1⟩ := h
  exact dropsV_gone Y 1 Y.limbo V hk.keys ⟨p, hp, h1, hz.held hl p⟩
def Eh1 (w0 : World) (a y : Nat) (ev : Value) (n : Nat) (g : Nat) (iv : Value) (w : World) : Prop :=
  ∃ (own : Nat → Nat) (i : Nat) (Y : YV) (V : AV) (lv : Value), iv = .int .i64 i ∧ i + g = n ∧ Bd (i + 1) Y V ∧ Y.bound = 64 ∧ Y.ent.length = 9 ∧ Fr Y V ∧ Arena w own 1 a V ∧ Yard w own 2 y a Y ev lv ∧ Ext (fun c => c ≠ 0) w0 w (fun _ => 0) own
def Eh2 (w0 : World) (a y : Nat) (ev : Value) (t n m : Nat) (g : Nat) (iv : Value) (w : World) : Prop :=
  ∃ (own : Nat → Nat) (i : Nat) (Y : YV) (V : AV) (lv : Value), iv = .int .i64 i ∧ i + g = m ∧ Bd (n + i + 3) Y V ∧ Y.bound = 64 ∧ Y.ent.length = 9 ∧ Hd t Y V ∧ Arena w own 1 a V ∧ Yard w own 2 y a Y ev lv ∧ Ext (fun c => c ≠ 0) w0 w (fun _ => 0) own
def Eh3 (w0 : World) (a y : Nat) (ev : Value) (n m : Nat) (V : AV) (L : List (Int × Int × Int)) (g : Nat) (kv : Value) (w : World) : Prop :=
  ∃ (own : Nat → Nat) (k : Nat) (Y : YV) (lv : Value), kv = .int .i64 k ∧ k + g = 9 ∧ 1 ≤ k ∧ Zero k Y ∧ Y.limbo = L ∧ Bd (n + m + 3) Y V ∧ Arena w own 1 a V ∧ Yard w own 2 y a Y ev lv ∧ Ext (fun c => c ≠ 0) w0 w (fun _ => 0) own
set_option maxHeartbeats 8000000 in
theorem epochHolds_walk (w : World) (v : Value) (n b off : Nat) (f : Nat → Nat → Int) (hp : Recs Try.prog 22 3 w v n b off f) (u : Value) (m b2 off2 : Nat) (f2 : Nat → Nat → Int) (hq : Recs Try.prog 22 3 w u m b2 off2 f2)
    (t0 : Int) (ht0 : -9223372036854775808 ≤ t0 ∧ t0 ≤ 9223372036854775807) (by0 : Int) (hby0 : -9223372036854775808 ≤ by0 ∧ by0 ≤ 9223372036854775807) :
    Calls Try.prog 3 #[v, u, .int .i64 t0, .int .i64 by0] w fun e w' => e = .returned (.bool true) ∧ Below w.heap.size w w' := by
  have hlen := hp.len
  have hidx := hp.idx
  have hsz := hp.size
  have hsz2 := hq.size
  obtain ⟨tt, htt, hbit⟩ := and_le t0 7 (by decide)
  have hbit1 : bits .and .i64 t0 7 = (tt : Int) := hbit
  clear hbit
  obtain ⟨bt, hbt, hbit⟩ := and_le by0 7 (by decide)
  have hbit2 : bits .and .i64 by0 7 = (bt : Int) := hbit
  clear hbit
  go_enter Try.func3, Try.ntmps3
  go_wp2_with fail
  refine (New_any 3000 1 (fun _ => 0) w).mono ?_
  rintro e w1 ⟨rfl, hB, hA⟩
  have H1 := Lib.hid (Ext.of_below (M := fun c => c ≠ 0) hB (fun _ => 0) 1)
  generalize ow (fun _ => 0) w.heap.size 1 = own1 at *
  generalize w.heap.size + 1 = a at *
  clear hB
  go_wp2_with fail
  refine (alive4_any w1).mono ?_
  rintro e w0 ⟨rfl, hB⟩
  have hA := hA.ext (Ext.of_below (M := fun _ => False) hB own1 4) (by simp)
  have H0 := Lib.hid (H1.out.trans (Ext.of_below hB own1 4))
  generalize ow own1 w1.heap.size 4 = own0 at *
  clear hB H1
  go_wp2_with fail
  refine (YNew_any 8 64 a 2 own0 w0).mono ?_
  rintro e w2 ⟨rfl, hB, ev, hY⟩
  have hA2 := hA.ext (Ext.of_below (M := fun _ => False) hB own0 2) (by simp)
  have H2 := Lib.hid (H0.out.trans (Ext.of_below hB own0 2))
  generalize ow own0 w0.heap.size 2 = own2 at *
  generalize w0.heap.size + 1 = y at *
  clear hB H0 hA
  go_wp2_with fail
  refine (ar_as (r' := .tuple #[.int .i64 1, .int .i64 0]) (V' := (AV.fresh 3000).alloc 3) (Alloc_any hA2 (by decide) 3) (by kernel_rfl) rfl).mono ?_
  rintro e w3 ⟨rfl, own3, hE3, hA3⟩
  have hY3 := hY.ext hE3 (by decide)
  have H3 := Lib.hid (H2.out.trans (hE3.mono (M' := fun c => c ≠ 0) (by simp)))
  clear hE3 hY hA2 H2
  go_wp2_with fail
  go_loopg [42] n (fun g iv wr => Eh1 w a y ev n g iv wr)
  case atStart => exact ⟨own3, 0, _, _, _, rfl, by omega, (Bd.fresh 8 64 3000).alloc 3, by kernel_rfl, by kernel_rfl, ⟨by kernel_rfl, fun p hp => by simp [YV.fresh] at hp⟩, hA3, hY3, H3.out⟩
  case round =>
    clear hA3 hY3 H3
    obtain ⟨own, i, Y, V, lv, rfl, hi, hbd, hT, hln, hfr, hA, hY, hE⟩ := hrel
    have HE := Lib.hid hE
    have HBD := Lib.hid hbd
    have HFR := Lib.hid hfr
    clear hE hfr
    have hfa := hbd.faults
    have hma := hbd.made
    have hno := hbd.now
    have hfw := hbd.few (by omega)
    clear hbd
    by_cases hlt : i < n
    · have hlt2 : (i : Int) < n := by omega
      have c0 := hp.at_ (HE.out.below (by simp)) hlt (show 0 < 3 by omega)
      have c1 := hp.at_ (HE.out.below (by simp)) hlt (show 1 < 3 by omega)
      have c2 := hp.at_ (HE.out.below (by simp)) hlt (show 2 < 3 by omega)
      rw [Nat.add_zero] at c0
      generalize f i 0 = kd at *
      generalize f i 1 = t at *
      generalize f i 2 = bb at *
      have hX : ∀ M, Ext M wr (wr.alloc (.cells #[.int .i64 kd, .int .i64 t, .int .i64 bb] 32)) own (ow own wr.heap.size 4) := fun M => (Ext.refl.ow _).alloc _
      have hA' := hA.ext (hX (fun _ => False)) (by simp)
      have hY' := hY.ext (hX (fun _ => False)) (by simp)
      have HE' := Lib.hid (HE.out.trans (hX _))
      clear HE hA hY hX
      generalize ow own wr.heap.size 4 = own4 at *
      by_cases hk : kd = 6
      · have b1 : (kd != 6) = false := by simp [hk]
        clear hk
        go_wp2_with fail
        go_roundg (n - (i + 1))
        case measure => omega
        case rel => exact ⟨own4, i + 1, Y, V, lv, by go_num, by omega, HBD.out.mono (by omega), hT, hln, HFR.out, hA', hY', HE'.out⟩
      · by_cases hb1 : bb = 1
        · have b1 : (kd != 6) = true := by simp [hk]
          have b2 : (bb != 1) = false := by simp [hb1]
          clear hk hb1
          go_wp2_with fail
          go_roundg (n - (i + 1))
          case measure => omega
          case rel => exact ⟨own4, i + 1, Y, V, lv, by go_num, by omega, HBD.out.mono (by omega), hT, hln, HFR.out, hA', hY', HE'.out⟩
        · have b1 : (kd != 6) = true := by simp [hk]
          have b2 : (bb != 1) = true := by simp [hb1]
          have HD := Lib.hid (does_none hA' hY' (by decide) (by omega) (by omega) (by omega) (by omega) kd t bb hk)
          have HF4 := Lib.hid (HFR.out.step kd t hb1)
          unfold yd0 ad0 at HD
          clear hk hb1
          go_wp2_with fail
          refine HD.out.mono ?_
          rintro e w4 ⟨r, lv4, own5, rfl, hE4, hA4, hY4⟩
          have HB4 := Lib.hid (HBD.out.step kd t bb)
          have hT4 : (e4Y Y V kd t bb).bound = 64 := by rw [(e4Y_bound Y V kd t bb).1]; exact hT
          have hl4 : (e4Y Y V kd t bb).ent.length = 9 := by rw [(e4Y_bound Y V kd t bb).2]; exact hln
          have H4 := Lib.hid (HE'.out.trans (hE4.mono (M' := fun c => c ≠ 0) (by intro c h; rcases h with rfl | rfl <;> decide)))
          clear HD hE4 HE' hA' hY' HBD hT hfa hma hno hfw c0 c1 c2 HFR hln
          generalize e4Y Y V kd t bb = Y4 at *
          generalize e4V Y V kd t bb = V4 at *
          go_wp2_with fail
          go_roundg (n - (i + 1))
          case measure => omega
          case rel => exact ⟨own5, i + 1, Y4, V4, lv4, by go_num, by omega, HB4.out.mono (by omega), hT4, hl4, HF4.out, hA4, hY4, H4.out⟩
    · obtain rfl : i = n := by omega
      obtain ⟨t, ett⟩ : ∃ t : Nat, (1 : Int) + tt = t := ⟨tt + 1, by omega⟩
      obtain ⟨bb, ebt⟩ : ∃ t : Nat, (1 : Int) + bt = t := ⟨bt + 1, by omega⟩
      have ht18 : 1 ≤ t ∧ t ≤ 8 := by omega
      have hby18 : 1 ≤ bb ∧ bb ≤ 8 := by omega
      obtain ⟨n1, n2⟩ := enter_in hY.ok hln ht18
      have HN2 := Lib.hid n2
      have HN1 := Lib.hid n1
      have HB1 := Lib.hid (HBD.out.enter (t : Int))
      obtain ⟨l1, l2, l3⟩ := enter_limbo Y (t : Int)
      have HF1 := Lib.hid (show Fr (Y.enter (t : Int)) V from ⟨HFR.out.find, fun p hp => HFR.out.no p (by rw [← l1]; exact hp)⟩)
      rw [hT] at l2
      rw [hln] at l3
      clear n1 n2 l1
      go_wp2_with fail
      try rw [ett, ebt]
      refine (Enter_any hY (by omega) (t : Int)).mono ?_
      rintro e w3 ⟨rfl, hE3, hY3⟩
      have hA3 := hA.ext hE3 (by decide)
      have H3 := Lib.hid (HE.out.trans (hE3.mono (M' := fun c => c ≠ 0) (by simp)))
      clear hE3 hA hY HE HBD HFR hfa hma hno hfw hT hln
      have hfa := HB1.out.faults
      have hma := HB1.out.made
      have hno := HB1.out.now
      have hfw := HB1.out.few (by omega)
      generalize Y.enter (t : Int) = Y1 at *
      go_wp2_with fail
      refine (Inside_any hY3 3).mono ?_
      rintro e w4 ⟨iv, rfl, hI, hB⟩
      obtain ⟨bi, hIi⟩ := Ints.of_row (xs := Y1.inside) Try.underlying33 parts_intL.choose_spec.1 parts_intL.choose_spec.2.2.1 hI
      have hin9 : Y1.inside.length ≤ 9 := by have := insFrom_len Y1.ent 0; rw [l3] at this; exact this
      have hA4 := hA3.ext (Ext.of_below (M := fun _ => False) hB own 3) (by simp)
      have hY4 := hY3.ext (Ext.of_below (M := fun _ => False) hB own 3) (by simp)
      have H4 := Lib.hid (H3.out.trans (Ext.of_below hB own 3))
      clear hB hI hA3 hY3 H3
      generalize ow own w3.heap.size 3 = own4 at *
      go_wp2_with fail
      refine (Has_any hIi (by omega) t).mono ?_
      rintro e w5 ⟨rfl, rfl⟩
      rw [in_inside HN1.out]
      clear hIi
      have hST := hd_start HF1.out l3 l2 HB1.out hby18 HN1.out HN2.out
      have HB2 := Lib.hid (HB1.out.retire bb 1)
      have HRT := Lib.hid (Retire_any hA4 hY4 (by decide) (by omega) (by omega) (by omega) bb 1)
      rcases hST with ⟨r1, r2, r3⟩ | ⟨r1, r2⟩
      · rw [r1, r2] at HRT
        clear r1 r2
        go_wp2_with fail
        refine HRT.out.mono ?_
        rintro e w6 ⟨lv6, own6, rfl, hE6, hA6, hY6⟩
        have H6 := Lib.hid (H4.out.trans (hE6.mono (M' := fun c => c ≠ 0) (by intro c h; rcases h with rfl | rfl <;> decide)))
        clear hE6 hA4 hY4 H4 HRT HB2
        have hsw : Y1.sweep.inside = Y1.inside := rfl
        have hsl : Y1.sweep.limbo.length ≤ 512 := Nat.le_trans (List.length_filter_le _ _) hfw
        go_wp2_with fail
        refine (Inside_any hY6 3).mono ?_
        rintro e w7 ⟨iv7, rfl, hI, hB⟩
        rw [hsw] at hI
        obtain ⟨bi, hIi⟩ := Ints.of_row (xs := Y1.inside) Try.underlying33 parts_intL.choose_spec.1 parts_intL.choose_spec.2.2.1 hI
        have hY7 := hY6.ext (Ext.of_below (M := fun _ => False) hB own6 3) (by simp)
        have H7 := Lib.hid (H6.out.trans (Ext.of_below hB own6 3))
        clear hB hI hA6 hY6 H6
        go_wp2_with fail
        refine (Has_any hIi (by omega) t).mono ?_
        rintro e w8 ⟨rfl, rfl⟩
        rw [in_inside HN1.out]
        go_wp2_with fail
        refine (Limbo_any hY7 (by omega) bb).mono ?_
        rintro e w9 ⟨rfl, hB⟩
        have H9 := Lib.hid (H7.out.trans (Ext.of_below hB _ 3))
        rw [r3]
        clear hB hY7 H7
        go_wp2_with fail
        go_ret
        exact ⟨rfl, H9.out.below (by simp)⟩
      · rw [r1] at HRT
        have HH := Lib.hid r2
        clear r1 r2
        go_wp2_with fail
        refine HRT.out.mono ?_
        rintro e w6 ⟨lv6, own6, rfl, hE6, hA6, hY6⟩
        have H6 := Lib.hid (H4.out.trans (hE6.mono (M' := fun c => c ≠ 0) (by intro c h; rcases h with rfl | rfl <;> decide)))
        have hT6 : (Y1.retire V bb 1).bound = 64 := by rw [← l2]; exact (e4Y_bound Y1 V 3 bb 1).1
        have hl6 : (Y1.retire V bb 1).ent.length = 9 := by rw [← l3]; exact (e4Y_bound Y1 V 3 bb 1).2
        clear hE6 hA4 hY4 H4 HRT
        generalize Y1.retire V bb 1 = Y6 at *
        generalize retireV Y1 V bb 1 = V6 at *
        have hqlen := hq.len
        have hqidx := hq.idx
        clear HB1 HF1 HN1 HN2 hfa hma hno hfw l2 l3 hin9
        go_wp2_with fail
        go_loopg [95] m (fun g iv wr => Eh2 w a y ev t i m g iv wr)
        case atStart => exact ⟨own6, 0, Y6, V6, lv6, rfl, by omega, HB2.out.mono (by omega), hT6, hl6, HH.out, hA6, hY6, H6.out⟩
        case round =>
          clear hA6 hY6 H6 HB2 hT6 hl6 HH
          obtain ⟨own, j, Y, V, lv, rfl, hj, hbd, hT, hln, hh, hA, hY, hE⟩ := hrel
          have HE := Lib.hid hE
          have HBD := Lib.hid hbd
          have HH := Lib.hid hh
          clear hE hh
          have hfa := hbd.faults
          have hma := hbd.made
          have hno := hbd.now
          have hfw := hbd.few (by omega)
          clear hbd
          by_cases hlt : j < m
          · have hlt2 : (j : Int) < m := by omega
            have c0 := hq.at_ (HE.out.below (by simp)) hlt (show 0 < 3 by omega)
            have c1 := hq.at_ (HE.out.below (by simp)) hlt (show 1 < 3 by omega)
            have c2 := hq.at_ (HE.out.below (by simp)) hlt (show 2 < 3 by omega)
            rw [Nat.add_zero] at c0
            generalize f2 j 0 = kd at *
            generalize f2 j 1 = T at *
            generalize f2 j 2 = bq at *
            have hX : ∀ M, Ext M wr (wr.alloc (.cells #[.int .i64 kd, .int .i64 T, .int .i64 bq] 32)) own (ow own wr.heap.size 4) := fun M => (Ext.refl.ow _).alloc _
            have hA' := hA.ext (hX (fun _ => False)) (by simp)
            have hY' := hY.ext (hX (fun _ => False)) (by simp)
            have HE' := Lib.hid (HE.out.trans (hX _))
            clear HE hA hY hX
            generalize ow own wr.heap.size 4 = own4 at *
            by_cases hk : kd = 6
            · have b1 : (kd == 6) = true := by simp [hk]
              clear hk
              go_wp2_with fail
              go_roundg (m - (j + 1))
              case measure => omega
              case rel => exact ⟨own4, j + 1, Y, V, lv, by go_num, by omega, HBD.out.mono (by omega), hT, hln, HH.out, hA', hY', HE'.out⟩
            · by_cases hk2 : kd = 2 ∧ T = t
              · have b1 : (kd == 6) = false := by simp [hk]
                have b2 : (kd == 2) = true := by simp [hk2.1]
                have b3 : (T == (t : Int)) = true := by simp [hk2.2]
                clear hk hk2
                go_wp2_with fail
                go_roundg (m - (j + 1))
                case measure => omega
                case rel => exact ⟨own4, j + 1, Y, V, lv, by go_num, by omega, HBD.out.mono (by omega), hT, hln, HH.out, hA', hY', HE'.out⟩
              · have b1 : (kd == 6) = false := by simp [hk]
                have HD := Lib.hid (does_none hA' hY' (by decide) (by omega) (by omega) (by omega) (by omega) kd T bq hk)
                have HH4 := Lib.hid (HH.out.step HBD.out hln ht18 kd T bq hk2)
                have HB4 := Lib.hid (HBD.out.step kd T bq)
                have hT4 : (e4Y Y V kd T bq).bound = 64 := by rw [(e4Y_bound Y V kd T bq).1]; exact hT
                have hl4 : (e4Y Y V kd T bq).ent.length = 9 := by rw [(e4Y_bound Y V kd T bq).2]; exact hln
                have hbb : (kd == 2) = false ∨ ((kd == 2) = true ∧ (T == (t : Int)) = false) := by
                  by_cases h2 : kd = 2
                  · exact .inr ⟨by simp [h2], by simp; exact fun h => hk2 ⟨h2, h⟩⟩
                  · exact .inl (by simp [h2])
                unfold yd0 ad0 at HD
                clear hk hk2 HBD HH hT hln hfa hma hno hfw
                generalize e4Y Y V kd T bq = Y4 at *
                generalize e4V Y V kd T bq = V4 at *
                rcases hbb with b2 | ⟨b2, b3⟩
                all_goals
                  go_wp2_with fail
                  refine HD.out.mono ?_
                  rintro e w4 ⟨r, lv4, own5, rfl, hE4, hA4, hY4⟩
                  have H4 := Lib.hid (HE'.out.trans (hE4.mono (M' := fun c => c ≠ 0) (by intro c h; rcases h with rfl | rfl <;> decide)))
                  clear HD hE4 HE' hA' hY' c0 c1 c2
                  obtain ⟨z1, z2, z3, z4⟩ := HH4.out.size
                  have hfa := HB4.out.faults
                  have hfw := HB4.out.few (by omega)
                  have hwl : Y4.waiting.length = Y4.limbo.length := by unfold YV.waiting; rw [List.length_map]
                  go_wp2_with fail
                  refine (ar_as (r' := .tuple #[.int .i64 3, .int .i64 0]) (V' := V4) (Size_any hA4 (by omega) 1) (by rw [z1, z2]) z3).mono ?_
                  rintro e w6 ⟨rfl, own8, hE6, hA6⟩
                  have hY6 := hY4.ext hE6 (by decide)
                  have H6 := Lib.hid (H4.out.trans (hE6.mono (M' := fun c => c ≠ 0) (by simp)))
                  clear hE6 hA4 hY4 H4 z1 z2 z3
                  go_wp2_with fail
                  refine (Waiting_any hY6 (by omega) 3).mono ?_
                  rintro e w7 ⟨wv, rfl, hW, hB⟩
                  obtain ⟨bw, hIw⟩ := Ints.of_row (xs := Y4.waiting) Try.underlying33 parts_intL.choose_spec.1 parts_intL.choose_spec.2.2.1 hW
                  have hA7 := hA6.ext (Ext.of_below (M := fun _ => False) hB own8 3) (by simp)
                  have hY7 := hY6.ext (Ext.of_below (M := fun _ => False) hB own8 3) (by simp)
                  have H7 := Lib.hid (H6.out.trans (Ext.of_below hB own8 3))
                  clear hB hW hA6 hY6 H6
                  go_wp2_with fail
                  refine (Has_any hIw (by omega) 1).mono ?_
                  rintro e w8 ⟨rfl, rfl⟩
                  rw [z4]
                  clear hIw
                  go_wp2_with fail
                  go_roundg (m - (j + 1))
                  case measure => omega
                  case rel => exact ⟨_, j + 1, Y4, V4, lv4, by go_num, by omega, HB4.out.mono (by omega), hT4, hl4, HH4.out, hA7, hY7, H7.out⟩
          · obtain rfl : j = m := by omega
            have HEX := Lib.hid (show ∃ p ∈ Y.limbo, p.1 = 1 from by obtain ⟨p, hp, h1, _⟩ := HH.out.ex; exact ⟨p, hp, h1⟩)
            go_wp2_with fail
            go_loopg [19] 8 (fun g kv wr => Eh3 w a y ev i j V Y.limbo g kv wr)
            case atStart => exact ⟨own, 1, Y, lv, rfl, by omega, by omega, (fun q hq => by rw [show q = 0 by omega]; exact HBD.out.zero), rfl, HBD.out, hA, hY, HE.out⟩
            case round =>
              clear hA hY HE HBD hT hln hfa hma hno hfw HH
              generalize Y.limbo = L at *
              obtain ⟨own, k, Y, lv, rfl, hk, hk1, hz, hL, hbd, hA, hY, hE⟩ := hrel
              have HE := Lib.hid hE
              have HBD := Lib.hid hbd
              clear hE hbd
              by_cases hk9 : k < 9
              · have hk8 : (k : Int) ≤ 8 := by omega
                go_wp2_with fail
                refine (Leave_any hY k).mono ?_
                rintro e w3 ⟨rfl, hE3, hY3⟩
                have hA3 := hA.ext hE3 (by decide)
                have H3 := Lib.hid (HE.out.trans (hE3.mono (M' := fun c => c ≠ 0) (by simp)))
                clear hE3 hA hY HE
                go_wp2_with fail
                go_roundg (9 - (k + 1))
                case measure => omega
                case rel => exact ⟨_, k + 1, _, _, by go_num, by omega, by omega, hz.leave hk1, by rw [(leave_limbo Y k).1]; exact hL, HBD.out.leave k, hA3, hY3, H3.out⟩
              · obtain rfl : k = 9 := by omega
                have hfw := HBD.out.few hY.ok.bound.2
                have hln := HBD.out.len
                have hkp := hz.kept hln Y.limbo
                have hfa2 := HBD.out.faults
                have hg := gone hA.ok hz hln (by rw [hL]; exact HEX.out)
                have hins : Y.sweep.inside = [] := hz.inside hln
                have hs0 : Y.sweep.limbo = [] := hkp
                have hw0 : Y.sweep.waiting = [] := by unfold YV.waiting; rw [hs0]; rfl
                have hf4 := (HBD.out.sweep).faults
                go_wp2_with fail
                refine (Sweep_any hA hY (by decide) (by omega) (by omega)).mono ?_
                rintro e w4 ⟨lv4, own4, rfl, hE4, hA4, hY4⟩
                have H4 := Lib.hid (HE.out.trans (hE4.mono (M' := fun c => c ≠ 0) (by intro c h; rcases h with rfl | rfl <;> decide)))
                generalize dropsV Y V Y.limbo = V4 at *
                generalize Y.sweep = Y4 at *
                clear hE4 hA hY HE hkp hL
                go_wp2_with fail
                refine (ar_as (r' := .tuple #[.int .i64 0, .int .i64 20]) (Size_any hA4 (by omega) 1) (by unfold AV.size AV.freeErr; rw [hg]) rfl).mono ?_
                rintro e w5 ⟨rfl, own5, hE5, hA5⟩
                have hY5 := hY4.ext hE5 (by decide)
                have H5 := Lib.hid (H4.out.trans (hE5.mono (M' := fun c => c ≠ 0) (by simp)))
                clear hE5 hA4 hY4 H4 hA5
                go_wp2_with fail
                refine (Waiting_any hY5 (by rw [hs0]; simp) 3).mono ?_
                rintro e w6 ⟨wv, rfl, hW, hB⟩
                rw [hw0] at hW
                obtain ⟨ra, rc, rfl⟩ := hW.shape
                have hY6 := hY5.ext (Ext.of_below (M := fun _ => False) hB own5 3) (by simp)
                have H6 := Lib.hid (H5.out.trans (Ext.of_below hB own5 3))
                clear hB hW hY5 H5
                go_wp2_with fail
                refine (Inside_any hY6 3).mono ?_
                rintro e w7 ⟨iv, rfl, hI, hB⟩
                rw [hins] at hI
                obtain ⟨ra2, rc2, rfl⟩ := hI.shape
                have H7 := Lib.hid (H6.out.trans (Ext.of_below hB _ 3))
                clear hB hI hY6 H6
                go_wp2_with fail
                go_ret
                exact ⟨by simp, H7.out.below (by simp)⟩
end Go.Proofs.Ytdomehpdjnfkeaa
