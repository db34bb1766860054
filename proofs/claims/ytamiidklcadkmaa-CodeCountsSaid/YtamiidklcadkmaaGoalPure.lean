/- A goal's code, plain: renamed goals, the clause '$goal'(V1, .. Vn). -/
import Derived.Test.YtamiidklcadkmaaRefRename
set_option maxRecDepth 20000
set_option linter.unusedVariables false
set_option linter.unusedSimpArgs false
namespace Go.Proofs.Ytamiidklcadkmaa
open Go.RowKit Go.PM
def rnf (m : List (Int × Int)) (x : Int) : Int := (mlk m x).getD x
theorem ren_var (m : List (Int × Int)) (s : ByteArray) (x : Int) (ls : List Tm) : Tm.ren m (.mk 1 s x ls) = varT (rnf m x) := by rw [Tm.ren, if_pos rfl]; rfl
theorem ren_four (m : List (Int × Int)) (s : ByteArray) (x : Int) (ls : List Tm) : Tm.ren m (.mk 4 s x ls) = .mk 4 s 0 (Tms.ren m ls) := by rw [Tm.ren, if_neg (by decide), if_pos rfl]
theorem ren_else (m : List (Int × Int)) (k : Int) (s : ByteArray) (x : Int) (ls : List Tm) (k1 : k ≠ 1) (k4 : k ≠ 4) : Tm.ren m (.mk k s x ls) = .mk k (bareS k s) (bareX k x) [] := by rw [Tm.ren, if_neg k1, if_neg k4]
theorem vars_one (s : ByteArray) (x : Int) (ls : List Tm) (out : List Int) : Tm.vars (.mk 1 s x ls) out = if x ∈ out then out else out ++ [x] := by rw [Tm.vars, if_pos rfl]
theorem vars_else (k : Int) (s : ByteArray) (x : Int) (ls : List Tm) (out : List Int) (k1 : k ≠ 1) (k4 : k ≠ 4) : Tm.vars (.mk k s x ls) out = out := by rw [Tm.vars, if_neg k1, if_neg k4]
theorem vars_map (m : List (Int × Int)) (S : List Int) (hinj : ∀ x ∈ S, ∀ y ∈ S, rnf m x = rnf m y → x = y) : ∀ (t : Tm) (out : List Int), (∀ x ∈ out, x ∈ S) → (∀ x ∈ Tm.vars t [], x ∈ S) → Tm.vars (Tm.ren m t) (out.map (rnf m)) = (Tm.vars t out).map (rnf m) := by
  refine Tm.ind fun k s x ls ih out ho ht => ?_
  by_cases k1 : k = 1
  · subst k1
    rw [ren_var, show varT (rnf m x) = .mk 1 noStr (rnf m x) [] from rfl, vars_one, vars_one]
    rw [vars_one, if_neg (by simp)] at ht
    have hx := ht x (by simp)
    by_cases hm : x ∈ out
    · rw [if_pos hm, if_pos (List.mem_map.2 ⟨x, hm, rfl⟩)]
    · rw [if_neg hm, if_neg, List.map_append]
      · rfl
      · intro h
        obtain ⟨y, hy, e⟩ := List.mem_map.1 h
        exact hm (hinj y (ho y hy) x hx e ▸ hy)
  by_cases k4 : k = 4
  · subst k4
    rw [ren_four, vars_4, vars_4]
    rw [vars_4] at ht
    have ht' : ∀ t ∈ ls, ∀ x ∈ Tm.vars t [], x ∈ S := fun t h x hx => ht x ((mem_varss x ls).2 ⟨t, h, hx⟩)
    clear ht
    rw [Tms.ren_map]
    induction ls generalizing out with
    | nil => simp only [List.map_nil, Tms.vars]
    | cons t ts iht =>
      rw [List.map_cons, Tms.vars, Tms.vars, ih t (List.mem_cons_self ..) out ho (ht' t (List.mem_cons_self ..))]
      exact iht (fun u hu => ih u (List.mem_cons_of_mem _ hu)) _ (fun x hx => ((mem_vars x t out).1 hx).elim (ho x) (ht' t (List.mem_cons_self ..) x)) (fun u hu => ht' u (List.mem_cons_of_mem _ hu))
  · rw [ren_else _ _ _ _ _ k1 k4, vars_else _ _ _ _ _ k1 k4, vars_else _ _ _ _ _ k1 k4]
theorem ren_comp (m m2 m3 : List (Int × Int)) : ∀ t : Tm, (∀ x ∈ Tm.vars t [], rnf m2 (rnf m x) = rnf m3 x) → Tm.ren m2 (Tm.ren m t) = Tm.ren m3 t := by
  refine Tm.ind fun k s x ls ih ht => ?_
  by_cases k1 : k = 1
  · subst k1
    rw [ren_var, ren_var, show varT (rnf m x) = .mk 1 noStr (rnf m x) [] from rfl, ren_var]
    rw [ht x (by rw [vars_one, if_neg (by simp)]; simp)]
  by_cases k4 : k = 4
  · subst k4
    rw [vars_4] at ht
    rw [ren_four, ren_four, ren_four, Tms.ren_map, Tms.ren_map, Tms.ren_map, List.map_map]
    congr 1
    exact List.map_congr_left fun t h => ih t h fun x hx => ht x ((mem_varss x ls).2 ⟨t, h, hx⟩)
  · rw [ren_else _ _ _ _ _ k1 k4, ren_else _ _ _ _ _ k1 k4, ren_else _ _ _ _ _ k1 k4]
    unfold bareS bareX
    by_cases h : k ≤ 2 <;> simp [h]
theorem mlk_renM_cons (v : Int) (vs : List Int) (n x : Int) : mlk (renM (v :: vs) n) x = if v = x then some n else mlk (renM vs (n + 1)) x := by
  rw [renM, mlk_cons]
theorem renM_inj : ∀ (vs : List Int) (n x y : Int), x ∈ vs → y ∈ vs → mlk (renM vs n) x = mlk (renM vs n) y → x = y
  | [], n, x, y, hx, _, _ => by cases hx
  | v :: vs, n, x, y, hx, hy, e => by
    rw [mlk_renM_cons, mlk_renM_cons] at e
    by_cases h1 : v = x
    · by_cases h2 : v = y
      · exact h1.symm.trans h2
      · rw [if_pos h1, if_neg h2] at e
        obtain ⟨z, q1, q2, _⟩ := renM_mem vs (n + 1) y ((List.mem_cons.1 hy).resolve_left (Ne.symm h2))
        rw [q1] at e
        injection e with e
        omega
    · rw [if_neg h1] at e
      have hx' := (List.mem_cons.1 hx).resolve_left (Ne.symm h1)
      by_cases h2 : v = y
      · rw [if_pos h2] at e
        obtain ⟨z, q1, q2, _⟩ := renM_mem vs (n + 1) x hx'
        rw [q1] at e
        injection e with e
        omega
      · rw [if_neg h2] at e
        exact renM_inj vs (n + 1) x y hx' ((List.mem_cons.1 hy).resolve_left (Ne.symm h2)) e
theorem rnf_inj (vs : List Int) (n : Int) : ∀ x ∈ vs, ∀ y ∈ vs, rnf (renM vs n) x = rnf (renM vs n) y → x = y := by
  intro x hx y hy e
  obtain ⟨z, q1, _⟩ := renM_mem vs n x hx
  obtain ⟨z', q2, _⟩ := renM_mem vs n y hy
  unfold rnf at e
  rw [q1, q2] at e
  have e : z = z' := e
  exact renM_inj vs n x y hx hy (by rw [q1, q2, e])
theorem mlk_map (f : Int → Int) (S : List Int) (hinj : ∀ x ∈ S, ∀ y ∈ S, f x = f y → x = y) (x : Int) (hx : x ∈ S) : ∀ (vs : List Int) (n : Int), (∀ y ∈ vs, y ∈ S) → mlk (renM (vs.map f) n) (f x) = mlk (renM vs n) x
  | [], n, h => rfl
  | v :: vs, n, h => by
    rw [List.map_cons, mlk_renM_cons, mlk_renM_cons, mlk_map f S hinj x hx vs (n + 1) fun y hy => h y (List.mem_cons_of_mem _ hy)]
    by_cases e : v = x
    · rw [if_pos e, if_pos (by rw [e])]
    · rw [if_neg e, if_neg fun e2 => e (hinj v (h v (List.mem_cons_self ..)) x hx e2)]
theorem goalE_0 {g : Tm} : goalE g = 0 ↔ Tm.rightN g = true ∧ g.k ≠ 2 := by
  unfold goalE
  cases Tm.rightN g
  · simp
  · by_cases h : g.k = 2 <;> simp [h]
/-- A renamed goal has the same code. -/
theorem goal_ren (g : Tm) (n : Int) (hn : 1 ≤ n) (h : goalE g = 0) : goalE (Tm.ren (renM (Tm.vars g []) n) g) = 0 ∧ goalC (Tm.ren (renM (Tm.vars g []) n) g) = goalC g := by
  obtain ⟨h1, h2⟩ := goalE_0.1 h
  have hv : Tm.vars (Tm.ren (renM (Tm.vars g []) n) g) [] = (Tm.vars g []).map (rnf (renM (Tm.vars g []) n)) :=
    vars_map (renM (Tm.vars g []) n) (Tm.vars g []) (rnf_inj _ n) g [] (fun x hx => by cases hx) (fun x hx => hx)
  refine ⟨goalE_0.2 ⟨rightN_ren _ (fun x y h => mlk_renM hn h) g h1, by rw [ren_k]; exact h2⟩, ?_⟩
  have hN : goalN (Tm.ren (renM (Tm.vars g []) n) g) = goalN g := by unfold goalN; rw [hv, List.length_map]
  have hR : ren1 (Tm.ren (renM (Tm.vars g []) n) g) = ren1 g := by
    unfold ren1
    rw [hv]
    refine ren_comp _ _ _ g fun x hx => ?_
    obtain ⟨z, q1, _⟩ := renM_mem (Tm.vars g []) 1 x hx
    show (mlk (renM ((Tm.vars g []).map (rnf (renM (Tm.vars g []) n))) 1) (rnf (renM (Tm.vars g []) n) x)).getD _ = (mlk (renM (Tm.vars g []) 1) x).getD _
    rw [mlk_map _ (Tm.vars g []) (rnf_inj _ n) x hx _ _ (fun y hy => hy), q1]
    rfl
  unfold goalC
  rw [hN, hR]
theorem goalC_le (g : Tm) (h : Tm.rightN g = true) : (goalC g).is.length ≤ 1000000000 := by
  obtain ⟨r1, r2, r3⟩ := (rightN_iff g).1 h
  have h1 := goalC_len g h
  have h2 := vars_len g []
  have h3 := (bd_le 101 g (In0 3 0) 0).1
  have h4 : goalN g = (Tm.vars g []).length := rfl
  have h5 : bodyLen g = (bd 101 g (In0 3 0) 0).1.length := rfl
  simp only [List.length_nil] at h2
  omega
/-! ### the clause -/
def goalHead (vs : List Int) : Tm := .mk 4 sGoal 0 (vs.map varT)
theorem varss_nodup : ∀ (vs out : List Int), (out ++ vs).Nodup → Tms.vars (vs.map varT) out = out ++ vs
  | [], out, h => by simp [Tms.vars]
  | v :: vs, out, h => by
    have hv : v ∉ out := fun hm => by
      rw [List.nodup_append] at h
      exact h.2.2 v hm v (List.mem_cons_self ..) rfl
    rw [List.map_cons, Tms.vars, show varT v = .mk 1 noStr v [] from rfl, vars_one, if_neg hv, varss_nodup vs (out ++ [v]) (by simpa using h)]
    simp
theorem vars_sub : ∀ (t : Tm) (out : List Int), (∀ x ∈ Tm.vars t [], x ∈ out) → Tm.vars t out = out := by
  refine Tm.ind fun k s x ls ih out ht => ?_
  by_cases k1 : k = 1
  · subst k1
    rw [vars_one, if_pos (ht x (by rw [vars_one, if_neg (by simp)]; simp))]
  by_cases k4 : k = 4
  · subst k4
    rw [vars_4] at ht ⊢
    have ht' : ∀ t ∈ ls, ∀ x ∈ Tm.vars t [], x ∈ out := fun t h x hx => ht x ((mem_varss x ls).2 ⟨t, h, hx⟩)
    clear ht
    induction ls with
    | nil => rw [Tms.vars]
    | cons t ts iht =>
      rw [Tms.vars, ih t (List.mem_cons_self ..) out (ht' t (List.mem_cons_self ..))]
      exact iht (fun u hu => ih u (List.mem_cons_of_mem _ hu)) fun u hu => ht' u (List.mem_cons_of_mem _ hu)
  · rw [vars_else _ _ _ _ _ k1 k4]
theorem mlk_get : ∀ (vs : List Int) (n : Int) (hd : vs.Nodup) (i : Nat) (h : i < vs.length), mlk (renM vs n) vs[i] = some (n + i)
  | v :: vs, n, hd, 0, h => by rw [mlk_renM_cons, List.getElem_cons_zero, if_pos rfl]; simp
  | v :: vs, n, hd, i + 1, h => by
    have hi : i < vs.length := Nat.lt_of_succ_lt_succ h
    have hne : ¬ v = vs[i] := fun e => (List.nodup_cons.1 hd).1 (by rw [e]; exact List.getElem_mem hi)
    rw [List.getElem_cons_succ, mlk_renM_cons, if_neg hne, mlk_get vs (n + 1) (List.nodup_cons.1 hd).2 i hi]
    congr 1
    omega
theorem goalVars_get (n i : Nat) (h : i < (goalVars n).length) : (goalVars n)[i] = varT ((i : Int) + 1) := by simp [goalVars]
theorem comp_goal (g : Tm) (h : compOk (goalHead (Tm.vars g [])) g = true) : compM (goalHead (Tm.vars g [])) g = goalC g := by
  have hd : (Tm.vars g []).Nodup := vars_nodup g [] (by simp)
  have hw : Tm.vars (whole (goalHead (Tm.vars g [])) g) [] = Tm.vars g [] := by
    unfold whole
    rw [vars_4, Tms.vars, Tms.vars, Tms.vars]
    unfold goalHead
    rw [vars_4, varss_nodup _ [] (by simpa using hd)]
    exact vars_sub _ _ fun x hx => by simpa using hx
  have hl : (Tm.ren (renM (Tm.vars g []) 1) (goalHead (Tm.vars g []))).ls = goalVars (goalN g) := by
    rw [ren_ls]
    rw [if_pos (show (goalHead (Tm.vars g [])).k = 4 from rfl), Tms.ren_map]
    show ((Tm.vars g []).map varT).map _ = _
    refine List.ext_getElem (by rw [List.length_map, List.length_map, goalVars_len]; rfl) fun i h1 h2 => ?_
    have hi : i < (Tm.vars g []).length := by simpa using h1
    rw [List.getElem_map, List.getElem_map, goalVars_get, show varT (Tm.vars g [])[i] = .mk 1 noStr (Tm.vars g [])[i] [] from rfl, ren_var]
    unfold rnf
    rw [mlk_get _ _ hd i hi]
    show varT (1 + (i : Int)) = _
    rw [Int.add_comm]
  unfold compM clM
  rw [hw, hl]
  unfold goalC ren1
  have hN : Tm.predN (goalHead (Tm.vars g [])) = goalN g := by
    unfold Tm.predN
    rw [if_pos (show (goalHead (Tm.vars g [])).k = 4 from rfl)]
    show ((Tm.vars g []).map varT).length = _
    rw [List.length_map]; rfl
  rw [hN]
  rfl
end Go.Proofs.Ytamiidklcadkmaa
