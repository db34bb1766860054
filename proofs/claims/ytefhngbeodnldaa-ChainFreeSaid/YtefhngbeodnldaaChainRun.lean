/- Layer 5: a step of an operation, whatever it does; operations that are begun. -/
import Derived.Test.YtefhngbeodnldaaChainAll
set_option maxRecDepth 20000
set_option linter.unusedVariables false
set_option linter.unusedSimpArgs false
namespace Go.Proofs.Ytefhngbeodnldaa
open Go.RowKit Go.PM
def stV (V : AV) (Y : YV) (B : BV) (O : CO) : AV :=
  if O.next = 1 then root2V V Y B O else if O.next = 2 then V.touch O.old else if O.next = 3 then read2V V Y O else if O.next = 4 then V.touch B.block else if O.next = 5 then V.alloc O.list.length
  else if O.next = 6 then V.store O.fresh O.count (O.list.getD O.count.toNat 0) else if O.next = 7 then V.swap B.block (O.chain - 1) O.old O.fresh else if O.next = 8 then V.free O.fresh else if O.next = 9 then retireV Y V O.t O.old else V
def stY (V : AV) (Y : YV) (B : BV) (O : CO) : YV :=
  if O.next = 0 then enterY Y B O else if O.next = 1 then root2Y V Y B O else if O.next = 3 then read2Y V Y O else if O.next = 9 then Y.retire V O.t O.old else if O.next = 10 then Y.leave O.t else Y
def stO (V : AV) (Y : YV) (B : BV) (O : CO) : CO :=
  if O.next = 0 then enterO Y B O else if O.next = 1 then root2O V Y B O else if O.next = 2 then sizeO V O else if O.next = 3 then read2O V Y O else if O.next = 4 then chkO V B O else if O.next = 5 then bldO V O
  else if O.next = 6 then wrtO O else if O.next = 7 then swapO V B O else if O.next = 8 then undO O else if O.next = 9 then { O with next := 10 } else { O with next := 11 }
/-- What a step asks of the numbers. -/
structure StOk (V : AV) (Y : YV) (B : BV) (O : CO) : Prop where
  f0 : 0 ≤ V.faults
  f : V.faults + Y.limbo.length < 700000000000000
  lm : Y.limbo.length ≤ 3000000000000
  now : Y.now < 1000000000000000
  made : V.made < 1000000000000000
  n0 : 0 ≤ O.next
  n10 : O.next ≤ 10
  ch : O.next ≠ 0 → 1 ≤ O.chain ∧ O.chain ≤ 1000
  fl : O.found.length ≤ 299
  ll : O.list.length ≤ 1000
  wr : O.next = 6 → 0 ≤ O.count ∧ O.count < (O.list.length : Nat)
  sw : O.next = 7 → 0 < O.list.length
  st : O.next = 3 → 0 ≤ (readO V O).st ∧ (readO V O).st < 1000000000000000
section
variable {w w1 w0 : World} {own : Nat → Nat} {q ko a y b o : Nat} {V V' : AV} {Y Y' : YV} {B : BV} {O O' : CO}
theorem SPost.as {V2 : AV} {Y2 : YV} {O2 : CO} {e : Ending} {w' : World} (e1 : V = V2) (e2 : Y = Y2) (e3 : O = O2) (h : SPost q ko a y b o V Y B O w0 own e w') : SPost q ko a y b o V2 Y2 B O2 w0 own e w' := by
  subst e1; subst e2; subst e3; exact h
theorem CoStep_any (h0 : CPost q ko a y b o V Y B O w0 own w) (hq : q + 4 ≤ ko) (hk : StOk V Y B O) :
    Calls Try.prog 9 #[.pointer (some ⟨o, 0, none⟩)] w (SPost q ko a y b o (stV V Y B O) (stY V Y B O) B (stO V Y B O) w0 own) := by
  obtain ⟨f0, f, lm, now, made, n0, n10, ch, fl, ll, wr, sw, st⟩ := hk
  have hf : V.faults < 1000000000000000 := by omega
  by_cases h : O.next = 0
  · exact (step0_any h0 hq h now).mono fun _ _ hp => hp.as (by simp [stV, h]) (by simp [stY, h]) (by simp [stO, h])
  obtain ⟨c1, c2⟩ := ch h
  by_cases h : O.next = 1
  · exact (step1_any h0 hq h f f0 lm c1 c2).mono fun _ _ hp => hp.as (by simp [stV, h]) (by simp [stY, h]) (by simp [stO, h])
  by_cases h : O.next = 2
  · exact (step2_any h0 hq h hf).mono fun _ _ hp => hp.as (by simp [stV, h]) (by simp [stY, h]) (by simp [stO, h])
  by_cases h : O.next = 3
  · exact (step3_any h0 hq h f f0 lm fl (st h).1 (st h).2).mono fun _ _ hp => hp.as (by simp [stV, h]) (by simp [stY, h]) (by simp [stO, h])
  by_cases h : O.next = 4
  · exact (step4_any h0 hq hf c1 c2 h).mono fun _ _ hp => hp.as (by simp [stV, h]) (by simp [stY, h]) (by simp [stO, h])
  by_cases h : O.next = 5
  · exact (step5_any h0 hq made ll h).mono fun _ _ hp => hp.as (by simp [stV, h]) (by simp [stY, h]) (by simp [stO, h])
  by_cases h : O.next = 6
  · exact (step6_any h0 hq hf (wr h).1 (wr h).2 ll h).mono fun _ _ hp => hp.as (by simp [stV, h]) (by simp [stY, h]) (by simp [stO, h])
  by_cases h : O.next = 7
  · exact (step7_any h0 hq hf c1 c2 (sw h) h).mono fun _ _ hp => hp.as (by simp [stV, h]) (by simp [stY, h]) (by simp [stO, h])
  by_cases h : O.next = 8
  · exact (step8_any h0 hq hf h).mono fun _ _ hp => hp.as (by simp [stV, h]) (by simp [stY, h]) (by simp [stO, h])
  by_cases h : O.next = 9
  · exact (step9_any h0 hq (by omega) lm now h).mono fun _ _ hp => hp.as (by simp [stV, h]) (by simp [stY, h]) (by simp [stO, h])
  have h : O.next = 10 := by omega
  exact (step10_any h0 hq h).mono fun _ _ hp => hp.as (by simp [stV, h]) (by simp [stY, h]) (by simp [stO, h])
/-- An operation that is begun. -/
def CO.begin (t chain what value : Int) : CO := ⟨t, chain, what, value, 0, 0, 0, [], [], 0, false, 0, false, 0, []⟩
theorem CO.begin_at (t chain what value : Int) (own : Nat → Nat) (k b : Nat) (hk : own w.heap.size = k) : CAt (w.alloc (.cells #[.pointer (some ⟨b, 0, none⟩), .int .i64 t, .int .i64 chain, .int .i64 what, .int .i64 value, .int .i64 0, .int .i64 0, .int .i64 0, .slice none 0 0, .slice none 0 0, .int .i64 0, .bool false, .int .i64 0, .bool false, .int .i64 0, .slice none 0 0] 68)) own k w.heap.size b (CO.begin t chain what value) :=
  ⟨_, _, _, Blk.new w _ hk, Row.nil _ _ _ _ _, Row.nil _ _ _ _ _, Row.nil _ _ _ _ _⟩
def BgPost (w : World) (k b : Nat) (O : CO) (e : Ending) (w' : World) : Prop :=
  ∃ o, e = .returned (.pointer (some ⟨o, 0, none⟩)) ∧ w.heap.size ≤ o ∧ Below w.heap.size w w' ∧ ∀ own : Nat → Nat, (∀ c, w.heap.size ≤ c → own c = k) → CAt w' own k o b O
set_option maxHeartbeats 1000000 in
theorem CoAdd_any (b : Nat) (t chain v : Int) (front : Bool) (k : Nat) : Calls Try.prog 8 #[.pointer (some ⟨b, 0, none⟩), .int .i64 t, .int .i64 chain, .int .i64 v, .bool front] w (BgPost w k b (CO.begin t chain (if front then 1 else 0) v)) := by
  cases front
  all_goals
    go_enter Try.func8, Try.ntmps8
    go_wp2_with fail
    go_ret
    exact ⟨_, rfl, Nat.le_refl _, (Below.refl _ _).alloc (Nat.le_refl _) _, fun own hk => CO.begin_at _ _ _ _ own k b (hk _ (Nat.le_refl _))⟩
set_option maxHeartbeats 1000000 in
theorem CoCut_any (b : Nat) (t chain v : Int) (k : Nat) : Calls Try.prog 13 #[.pointer (some ⟨b, 0, none⟩), .int .i64 t, .int .i64 chain, .int .i64 v] w (BgPost w k b (CO.begin t chain 2 v)) := by
  go_enter Try.func13, Try.ntmps13
  go_wp2_with fail
  go_ret
  exact ⟨_, rfl, Nat.le_refl _, (Below.refl _ _).alloc (Nat.le_refl _) _, fun own hk => CO.begin_at _ _ _ _ own k b (hk _ (Nat.le_refl _))⟩
set_option maxHeartbeats 1000000 in
theorem CoAll_any (b : Nat) (t chain : Int) (k : Nat) : Calls Try.prog 53 #[.pointer (some ⟨b, 0, none⟩), .int .i64 t, .int .i64 chain] w (BgPost w k b (CO.begin t chain 3 0)) := by
  go_enter Try.func53, Try.ntmps53
  go_wp2_with fail
  go_ret
  exact ⟨_, rfl, Nat.le_refl _, (Below.refl _ _).alloc (Nat.le_refl _) _, fun own hk => CO.begin_at _ _ _ _ own k b (hk _ (Nat.le_refl _))⟩
end
end Go.Proofs.Ytefhngbeodnldaa
