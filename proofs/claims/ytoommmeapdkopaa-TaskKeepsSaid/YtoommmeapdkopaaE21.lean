/-
  ENGINE, part 21: functions; the interpreter as a whole.
-/
import Derived.Test.YtoommmeapdkopaaE20
namespace Go.Eng

section
variable {P : Program} {G : Prog} {S : Self}

theorem res_one {φ : Phi} {H : Heap} {A : Nat → Prop} {w : World} (g : Good φ H A w) {rv : ResultVar} {ir : IRes} (hr : trRes P rv = some ir) {ts : List V} {tmps : Array Value} (ht : TR φ H A w ts tmps) {v : V} (h : result1 ts H ir = some v) {f : ResultVar → Sem Value} (hf1 : ∀ t, f (.tmp t) = pure (tmps.getD t undef)) (hf2 : ∀ a t, f (.cell a t) = do loadVar t (← asAddr (tmps.getD a undef))) :
    ∃ u, (f rv).run P w = .ok u w ∧ VR φ H A w v u := by
  cases rv with
  | tmp t =>
    simp only [trRes, Option.some.injEq] at hr
    subst hr
    simp only [result1, Option.some.injEq] at h
    subst h
    exact ⟨_, by rw [hf1]; rfl, ht.2 t⟩
  | cell a t =>
    simp only [trRes, Option.bind_eq_some_iff] at hr
    obtain ⟨k, hk, hr⟩ := hr
    split at hr
    case isFalse => cases hr
    rename_i hok
    cases hr
    simp only [result1] at h
    simp only [Option.bind_eq_some_iff] at h
    obtain ⟨cs, h1, h2⟩ := h
    obtain ⟨ad, us, hp, hl, hc, hrr⟩ := rd_sound g (Sub.refl _) (ht.2 a) h1
    obtain ⟨z, q1, q2⟩ := load_one hk hok hc hl hrr h2
    refine ⟨z, ?_, q2⟩
    rw [hf2]
    simp only [hp]
    simpa [asAddr] using q1

theorem res_list {φ : Phi} {H : Heap} {A : Nat → Prop} {w : World} (g : Good φ H A w) {ts : List V} {tmps : Array Value} (ht : TR φ H A w ts tmps) {f : ResultVar → Sem Value} (hf1 : ∀ t, f (.tmp t) = pure (tmps.getD t undef)) (hf2 : ∀ a t, f (.cell a t) = do loadVar t (← asAddr (tmps.getD a undef))) : ∀ (l : List ResultVar) (rs : List IRes) (vs : List V), mapO (trRes P) l = some rs → mapO (result1 ts H) rs = some vs →
    ∃ us : List Value, (l.mapM f).run P w = .ok us w ∧ us.length = vs.length ∧ ∀ i (h : i < vs.length), VR φ H A w vs[i] (us.getD i undef)
  | [], rs, vs, h1, h2 => by
    simp only [mapO, Option.some.injEq] at h1; subst h1
    simp only [mapO, Option.some.injEq] at h2; subst h2
    exact ⟨[], by simp, rfl, fun i hi => absurd hi (by simp)⟩
  | rv :: l, rs, vs, h1, h2 => by
    obtain ⟨ir, rs', hir, hrs, rfl⟩ := mapO_cons h1
    obtain ⟨v, vs', hv, hvs, rfl⟩ := mapO_cons h2
    obtain ⟨u, hu, hvu⟩ := res_one g hir ht hv hf1 hf2
    obtain ⟨us, q1, q2, q3⟩ := res_list g ht hf1 hf2 l rs' vs' hrs hvs
    refine ⟨u :: us, ?_, by simp [q2], fun i hi => ?_⟩
    · rw [List.mapM_cons]
      simp only [Sem.run_bind, hu, Result.andThen_ok, q1, Sem.run_pure]
    · cases i with
      | zero => exact hvu
      | succ i => exact q3 i (Nat.lt_of_succ_lt_succ hi)

theorem results_ok {φ : Phi} {H : Heap} {A : Nat → Prop} {w : World} (g : Good φ H A w) {fn : Func} {rs : List IRes} (hr : mapO (trRes P) fn.results.toList = some rs) {ts : List V} {tmps : Array Value} (ht : TR φ H A w ts tmps) {v : V} (h : resultV ts H rs = some v) :
    ∃ u, (results fn tmps).run P w = .ok u w ∧ VR φ H A w v u := by
  simp only [resultV, Option.map_eq_some_iff] at h
  obtain ⟨vs, hvs, rfl⟩ := h
  obtain ⟨f, hfe, hf1, hf2⟩ : ∃ f : ResultVar → Sem Value, (results fn tmps = do let vs ← fn.results.mapM f; pure (if h : vs.size = 1 then vs[0] else .tuple vs)) ∧ (∀ t, f (.tmp t) = pure (tmps.getD t undef)) ∧ (∀ a t, f (.cell a t) = do loadVar t (← asAddr (tmps.getD a undef))) := ⟨_, rfl, fun _ => rfl, fun _ _ => rfl⟩
  obtain ⟨us, q1, q2, q3⟩ := res_list g ht hf1 hf2 _ _ _ hr hvs
  have hm : (results fn tmps).run P w = .ok (if h : us.toArray.size = 1 then us.toArray[0] else .tuple us.toArray) w := by
    rw [hfe, Array.mapM_eq_mapM_toList]
    simp only [Sem.run_bind, Sem.run_map]
    rw [q1]
    rfl
  rw [hm]
  refine ⟨_, rfl, ?_⟩
  match vs, us, q2, q3 with
  | [v], [u], _, q3 => exact q3 0 (by simp)
  | [], [], _, _ => exact .tup rfl (fun i hi => absurd hi (by simp))
  | v1 :: v2 :: vs, u1 :: u2 :: us, q2, q3 =>
    rw [dif_neg (by simp)]
    exact .tup (by simpa using q2) (fun i hi => by rw [arr_getD]; exact q3 i hi)

theorem start_slots {φ : Phi} {H : Heap} {A : Nat → Prop} {w : World} {args : List V} {us : Array Value} (h : ArgR φ H A w args us) (n : Nat) : SR φ H A w (args ++ List.replicate (n - args.length) undefV) { tmps := us ++ Array.replicate (n - us.size) undef, defers := [] } := by
  refine ⟨rfl, by simp [h.1], fun i => ?_⟩
  show VR φ H A w ((args ++ List.replicate (n - args.length) undefV).getD i undefV) ((us ++ Array.replicate (n - us.size) undef).getD i undef)
  by_cases hi : i < args.length
  · have e1 : (args ++ List.replicate (n - args.length) undefV).getD i undefV = args[i] := by
      rw [List.getD_eq_getElem?_getD, List.getElem?_append_left hi, List.getElem?_eq_getElem hi]; rfl
    have e2 : (us ++ Array.replicate (n - us.size) undef).getD i undef = us.getD i undef := by
      rw [Array.getD_eq_getD_getElem?, Array.getElem?_append_left (by rw [h.1]; exact hi), ← Array.getD_eq_getD_getElem?]
    rw [e1, e2]; exact h.2 i hi
  · have e1 : (args ++ List.replicate (n - args.length) undefV).getD i undefV = undefV := by
      rw [List.getD_eq_getElem?_getD, List.getElem?_append_right (by omega), List.getElem?_replicate]; split <;> rfl
    have e2 : (us ++ Array.replicate (n - us.size) undef).getD i undef = undef := by
      rw [Array.getD_eq_getD_getElem?, Array.getElem?_append_right (by rw [h.1]; omega), Array.getElem?_replicate]; split <;> rfl
    rw [e1, e2]; exact .undef

theorem body_ok (hS : CallOK P G S) (hA : AgainOK P S) (hD : DrawOK P G S) {f : FuncId} {F : IFun} {mode : Nat} {pr : List Nat} (ht : trFun P f mode pr = some F) {args : List V} {H H1 : Heap} {v : V} (h : runF G S F args H = some (v, H1)) :
    ∀ (φ : Phi) (A : Nat → Prop) (w : World) (us : Array Value), Good φ H A w → ArgR φ H A w args us → Calls P f us w (PostW φ H A w H1 v) := by
  intro φ A w us g ha
  unfold trFun at ht
  simp only [Option.bind_eq_some_iff] at ht
  obtain ⟨fn, hf, c, hb, ht⟩ := ht
  split at ht
  · cases ht
  simp only [Option.map_eq_some_iff] at ht
  obtain ⟨rs, hrs, rfl⟩ := ht
  simp only [runF, Option.bind_eq_some_iff] at h
  obtain ⟨⟨x, ts1, H2⟩, h1, h2⟩ := h
  refine calls_of_wp hf hb (wp_mono (code_ok hS hA hD _ c _ _ _ h1 φ A w _ g (start_slots ha fn.ntmps)) (fun e a' w' he => ?_))
  obtain ⟨rfl, φ', A', l, s⟩ := he
  cases x with
  | e id => cases h2
  | n =>
    simp only [Option.map_eq_some_iff, Prod.mk.injEq] at h2
    obtain ⟨v', h3, rfl, rfl⟩ := h2
    obtain ⟨u, q1, q2⟩ := results_ok l.good hrs s.2 h3
    exact ⟨s.1, u, q1, u, φ', A', rfl, q2, l⟩
  | r =>
    simp only [Option.map_eq_some_iff, Prod.mk.injEq] at h2
    obtain ⟨v', h3, rfl, rfl⟩ := h2
    obtain ⟨u, q1, q2⟩ := results_ok l.good hrs s.2 h3
    exact ⟨s.1, u, q1, u, φ', A', rfl, q2, l⟩

theorem get_mem : ∀ {G : Prog} {f : FuncId} {F : IFun}, G.get f = some F → (f, F) ∈ G
  | [], _, _, h => by simp [Prog.get] at h
  | (g, F') :: r, f, F, h => by
    simp only [Prog.get] at h
    split at h
    · rename_i he
      cases h
      rw [Nat.eq_of_beq_eq_true he]
      simp
    · exact List.mem_cons_of_mem _ (get_mem h)

theorem nophi_good {A : Nat → Prop} {w : World} (h : ∀ b, A b → b < w.heap.size) : Good noPhi [] A w := ⟨fun i j r h => (by cases h), fun i r h => (by cases h), h⟩

theorem hasBody_of {f : FuncId} {F : IFun} {mode : Nat} {pr : List Nat} (ht : trFun P f mode pr = some F) : hasBody P f = true := by
  unfold trFun at ht
  simp only [Option.bind_eq_some_iff] at ht
  obtain ⟨fn, hf, c, hb, ht⟩ := ht
  split at ht
  · cases ht
  rename_i hn
  simp only [hasBody, hf, hb, Option.isSome_some, Bool.true_and, bne_iff_ne, ne_eq]
  intro he
  exact hn (by simp [he])

theorem call_step (hT : Ties P G) (hS : CallOK P G S) (hA : AgainOK P S) : CallOK P G (stepS G S) := by
  have hD := draw_ok hT.1 hS
  intro f args H0 v H1 h
  simp only [stepS, callS] at h
  cases hg : G.get f with
  | none => rw [hg] at h; cases h
  | some F =>
    rw [hg] at h
    simp only at h
    have ht := hT.2 _ (get_mem hg)
    simp only at ht
    refine ⟨hasBody_of ht, fun hp => ?_, fun hp => ?_⟩
    · simp only [Prog.pur, hg, bne_iff_ne, ne_eq] at hp
      rw [if_neg hp] at h
      split at h
      · rename_i hcl
        simp only [Option.bind_eq_some_iff] at h
        obtain ⟨⟨vr, Hr⟩, h1, h2⟩ := h
        refine ⟨handV_app h2, fun φ Hb A w us g ha hs0 hs1 hfree => ?_⟩
        have ha' : ArgR noPhi [] A w args us := ⟨ha.1, fun i hi => .rr (closed_rr (ha.2 i hi) (closed_list hcl i hi))⟩
        refine (body_ok hS hA hD ht h1 noPhi A w us (nophi_good g.fresh) ha').mono (fun e w' he => ?_)
        obtain ⟨u, φ1, A1, rfl, q1, q2⟩ := he
        obtain ⟨φ', A', r1, r2, r3⟩ := hand_sound g q2.ext q2.good q1 h2 (.inl rfl) hs1 hfree
        exact ⟨u, φ', A', rfl, r1, r2, r3⟩
      · simp only [Option.bind_eq_some_iff] at h
        obtain ⟨args', hc, ⟨vr, Hr⟩, h1, ⟨v2, H2⟩, h2, h3⟩ := h
        split at h3
        case isFalse => cases h3
        rename_i hsc
        simp only [Option.some.injEq, Prod.mk.injEq] at h3
        obtain ⟨rfl, rfl⟩ := h3
        refine ⟨handV_app h2, fun φ Hb A w us g ha hs0 hs1 hfree => ?_⟩
        have hlen := mapO_length hc
        have ha' : ArgR noPhi [] (fun b => A b ∨ ran φ b) w args' us := ⟨by rw [ha.1, hlen], fun i hi => .rr (closeV_sound g closeDepth _ _ _ (ha.2 i (by omega)) (closeV_sub hs0 _ _ _ (mapO_get hc i hi (by omega))))⟩
        refine (body_ok hS hA hD ht h1 noPhi _ w us (nophi_good (fun b hb => hb.elim (g.fresh b) (fun ⟨i, hi⟩ => (g.dom i b hi).1))) ha').mono (fun e w' he => ?_)
        obtain ⟨u, φ1, A1, rfl, q1, q2⟩ := he
        obtain ⟨φ', A', r1, r2, r3⟩ := hand_sound g q2.ext q2.good q1 h2 (.inr hsc) hs1 hfree
        exact ⟨u, φ', A', rfl, r1, r2, r3⟩
    · have h0 : F.mode = 0 := by simpa [Prog.pur, hg] using hp
      rw [if_pos h0] at h
      exact fun φ A w us g ha => body_ok hS hA hD ht h φ A w us g ha

theorem all_ok (hT : Ties P G) : ∀ n, CallOK P G (evN G n) ∧ AgainOK P (evN G n)
  | 0 => ⟨fun _ _ _ _ _ h => by simp [evN] at h, fun _ _ _ _ _ h => by simp [evN] at h⟩
  | n + 1 => by
    obtain ⟨hS, hA⟩ := all_ok hT n
    refine ⟨call_step hT hS hA, fun pr c ts H r h => ?_⟩
    simp only [evN, stepS] at h
    exact loop_ok hA (code_ok hS hA (draw_ok hT.1 hS) pr c) h

theorem call_sound (hT : Ties P G) {n : Nat} {f : FuncId} {args : List V} {v : V} {H1 : Heap} (h : (evN G n).call f args [] = some (v, H1)) {A : Nat → Prop} {w : World} (hA : ∀ b, A b → b < w.heap.size) {us : Array Value}
    (hl : us.size = args.length) (hr : ∀ i (h : i < args.length), RR A w args[i] (us.getD i undef)) :
    Calls P f us w (fun e w' => ∃ u φ' H' A', e = .returned u ∧ VR φ' H' A' w' v u ∧ Good φ' H' A' w' ∧ Ext noPhi A w φ' A' w') := by
  obtain ⟨_, h1, h2⟩ := (all_ok hT n).1 f args [] v H1 h
  have ha : ∀ Hb, ArgR noPhi Hb A w args us := fun Hb => ⟨hl, fun i hi => .rr (hr i hi)⟩
  cases hp : G.pur f with
  | true =>
    refine ((h1 hp).2 noPhi H1 A w us ⟨fun i j r h => (by cases h), fun i r h => (by cases h), hA⟩ (ha _) (fun i b h => by simp at h) (Sub.refl _) (fun _ _ _ => rfl)).mono (fun e w' he => ?_)
    obtain ⟨u, φ', A', rfl, q1, q2, _⟩ := he
    exact ⟨u, φ', H1, A', rfl, q1, q2.good, q2.ext⟩
  | false =>
    refine (h2 hp noPhi A w us (nophi_good hA) (ha _)).mono (fun e w' he => ?_)
    obtain ⟨u, φ', A', rfl, q1, q2⟩ := he
    exact ⟨u, φ', H1, A', rfl, q1, q2.good, q2.ext⟩

end
end Go.Eng
