/- What functions of the program return, proved over the interpreter. Each theorem says its conditions. -/
import Derived.Test.YtoommmeapdkopaaZS5
import Derived.Test.YtoommmeapdkopaaE36
import Derived.Test.YtoommmeapdkopaaZD2
namespace Go.Proofs.Ytoommmeapdkopaa.E
open Go Go.Eng

theorem ovl_take {cs xs : List V} {o : Nat} (h : o ≤ cs.length) : (ovl cs o xs).take o = cs.take o := by
  unfold ovl
  split
  · apply List.ext_getElem?
    intro i
    by_cases hi : i < o
    · rw [List.getElem?_take_of_lt hi, List.getElem?_take_of_lt hi, List.getElem?_set_ne (by omega)]
    · rw [List.getElem?_eq_none (by simp; omega), List.getElem?_eq_none (by simp; omega)]
  · rw [List.append_assoc, List.take_append_of_le_length (by simp; omega), List.take_take, Nat.min_self]
theorem filter_take_succ {α : Type} {l : List α} {i : Nat} (h : i < l.length) {p : α → Bool} : (l.take (i + 1)).filter p = (l.take i).filter p ++ if p l[i] = true then [l[i]] else [] := by
  rw [tk h, List.filter_append]
  cases hp : p l[i] <;> simp [hp]

theorem c47 {l : List Int} {c : Nat} {H : Heap} (hpos : 0 < l.length) (hc : H[c]? = some (.cells (l.map (V.int .i64)))) (hn : l.length ≤ 1000) (hr : ∀ y ∈ l, IntKind.i64.min ≤ y ∧ y ≤ IntKind.i64.max)
    {f : FuncId} {caps caps' : List V} (hcl : closeV H closeDepth (.fn f caps) = some (.fn f caps')) (p : Int → Bool)
    (hf : ∀ t ∈ l, ∀ (H : Heap) (k : V → Heap → Prop), (∀ H', k (.bool (p t)) H') → Cl G f (.int .i64 t :: caps') H k)
    (hf2 : ∀ t ∈ l, ∀ (Hx : Heap), But c H Hx → ∀ (k : V → Heap → Prop), (∀ H', But c Hx H' → H'[c]? = Hx[c]? → k (.bool (p t)) H') → Cl G f (.int .i64 t :: caps) Hx k)
    {k : V → Heap → Prop} (h : ∀ r H', But c H H' → (∃ cap rest, r = .sl c 0 (l.filter fun y => !p y).length cap 1 ∧ H'[c]? = some (.cells ((l.filter fun y => !p y).map (V.int .i64) ++ rest))) → k r H') : Cl G 47 [.sl c 0 l.length l.length 1, .fn f caps] H k := by
  refine Cl.inline (F := i47) rfl rfl ?_
  rw [w47]
  have hv : closeV H closeDepth (.sl c 0 l.length l.length 1) = some (.ro (l.map (V.int .i64)) l.length) := by
    rw [show closeDepth = 11 + 1 from rfl, closeV_sl hc (by simp)]
    have : (List.drop 0 (l.map (V.int .i64))).take (l.length * 1) = l.map (V.int .i64) := by rw [List.drop_zero]; exact List.take_of_length_le (by simp)
    rw [this, mapO_ints (d := 10)]
    rfl
  simp only [Bool.true_or, true_and]
  refine cIndexMem hv (ints_arr (by unfold top; omega) hr (.inl rfl)) hcl p hf (fun r hr0 => ?_) (fun r hrl ha hp => ?_)
  · obtain ⟨rfl, ha⟩ := hr0
    have hfl : (l.filter fun y => !p y) = l := by
      rw [List.filter_eq_self]
      intro a hm
      have := List.any_eq_false.1 ha a hm
      simpa using this
    simp only [binV_eql, decide_true, bd_some, ifB_bool, if_true]
    exact h _ H But.refl ⟨l.length, [], by rw [hfl], by rw [hfl, List.append_nil]; exact hc⟩
  have n1 : ¬ ((r : Int) = -1) := by omega
  have w1 : IntKind.i64.wrap ((r : Int) + 1) = ((r + 1 : Nat) : Int) := wi (by omega) (by omega)
  simp only [binV_eql, n1, decide_false, bd_some, ifB_bool, Bool.false_eq_true, if_false, binV_add, w1]
  have hfr : ((l.take r).filter fun y => !p y) = l.take r := by
    rw [List.filter_eq_self]
    intro a hm
    have := List.any_eq_false.1 ha a hm
    simpa using this
  have hfr1 : ((l.take (r + 1)).filter fun y => !p y) = l.take r := by
    rw [filter_take_succ hrl, hfr, hp]; simp
  refine ub47_0 l.length (fun j x0 x1 x5 x6 Hx => x0 = .sl c 0 l.length l.length 1 ∧ x1 = .fn f caps ∧ x5 = .int .i64 ((l.take j).filter fun y => !p y).length ∧ x6 = .int .i64 j ∧ But c H Hx ∧ ∃ B : List V, 0 < B.length ∧ ((l.take j).filter fun y => !p y).length + B.length = j ∧ Hx[c]? = some (.cells (((l.take j).filter fun y => !p y).map (V.int .i64) ++ (B ++ (l.drop j).map (V.int .i64))))) ?_ (r + 1) (by omega)
    ⟨rfl, rfl, by rw [hfr1]; simp; omega, rfl, But.refl, [.int .i64 l[r]], by simp, by rw [hfr1]; simp; omega, by
      rw [hfr1, hc]
      have e1 : l.map (V.int .i64) = (l.take r ++ l.drop r).map (V.int .i64) := by rw [List.take_append_drop]
      rw [e1, List.map_append, List.drop_eq_getElem_cons hrl]
      rfl⟩
  clear ha hp n1 w1 hfr hfr1
  rintro j hj _ _ _ _ Hx ⟨rfl, rfl, rfl, rfl, hB, B, b1, b2, b3⟩
  intros
  rw [wb47_0]
  have ls : lensV (.sl c 0 l.length l.length 1) = some (.int .i64 l.length) := rfl
  simp only [ls, bd_some, binV_lss, ifB_bool, decide_eq_true_eq, Int.ofNat_lt]
  split
  · rename_i hlt
    have step := filter_take_succ hlt (p := fun y => !p y)
    generalize hA : (l.take j).filter (fun y => !p y) = A at *
    have i1 : iadrV 1 (.sl c 0 l.length l.length 1) (.int .i64 j) = some (.ptr c j) := by simp [iadrV, hlt]
    have i2 : iadrV 1 (.sl c 0 l.length l.length 1) (.int .i64 A.length) = some (.ptr c A.length) := by
      have : A.length < l.length := by omega
      simp [iadrV, this]
    have hD : (l.drop j).map (V.int .i64) = .int .i64 l[j] :: (l.drop (j + 1)).map (V.int .i64) := by rw [List.drop_eq_getElem_cons hlt]; rfl
    rw [hD] at b3
    have l1 : ldV Hx (.ptr c j) 1 false = some (.int .i64 l[j]) := by
      refine ldV_own b3 ?_
      rw [List.getElem?_append_right (by simp; omega), List.getElem?_append_right (by simp; omega)]
      have : j - (A.map (V.int .i64)).length - B.length = 0 := by simp; omega
      rw [this]; rfl
    have wj : IntKind.i64.wrap ((j : Int) + 1) = ((j + 1 : Nat) : Int) := wi (by omega) (by omega)
    simp only [i1, l1, bd_some, callV_fn, List.singleton_append, Bool.true_or, true_and]
    refine hf2 l[j] (List.getElem_mem hlt) Hx hB _ fun H' hb' he' => ?_
    rw [b3] at he'
    have hlc := (List.getElem?_eq_some_iff.1 he').1
    simp only [unV_not, bd_some, ifB_bool, Bool.not_eq_true']
    cases hp : p l[j]
    · have wA : IntKind.i64.wrap ((A.length : Int) + 1) = ((A.length + 1 : Nat) : Int) := wi (by omega) (by omega)
      have st := stV_own (off := A.length) (x := .int .i64 l[j]) he' (by simp; omega) rfl
      simp only [hp, Bool.not_false, if_true] at step
      cases B with
      | nil => simp at b1
      | cons b B =>
        have es : (A.map (V.int .i64) ++ ((b :: B) ++ .int .i64 l[j] :: (l.drop (j + 1)).map (V.int .i64))).set A.length (.int .i64 l[j]) = (A ++ [l[j]]).map (V.int .i64) ++ ((B ++ [.int .i64 l[j]]) ++ (l.drop (j + 1)).map (V.int .i64)) := by
          rw [List.set_append_right _ _ (by simp)]
          simp
        rw [es] at st
        simp only [i2, st, bd_some, if_true, true_and, binV_add, wA, wr47_1, wj, upQ_n, Sb47_0_eq]
        refine ⟨j + 1, by omega, by omega, by rw [step]; simp, rfl, (hB.trans hb').trans But.set, B ++ [.int .i64 l[j]], by simp, by rw [step]; simp at b2 ⊢; omega, ?_⟩
        rw [step, List.getElem?_set]
        simp [hlc]
    · simp only [hp, Bool.not_true, Bool.false_eq_true, if_false, List.append_nil] at step
      simp only [Bool.true_eq_false, if_false, wr47_1, binV_add, bd_some, wj, upQ_n, Sb47_0_eq, true_and]
      refine ⟨j + 1, by omega, by omega, by rw [step], rfl, hB.trans hb', B ++ [.int .i64 l[j]], by simp, by rw [step]; simp; omega, ?_⟩
      rw [step, he']
      simp
  · rename_i hge
    have ej : j = l.length := by omega
    subst ej
    rw [List.take_length] at b2 b3 ⊢
    generalize hA : l.filter (fun y => !p y) = A at *
    have hAl : A.length < l.length := by omega
    have hlc := (List.getElem?_eq_some_iff.1 b3).1
    have s1 : slcV 1 (.sl c 0 l.length l.length 1) (some (.int .i64 A.length)) none none = some (.sl c A.length (l.length - A.length) (l.length - A.length) 1) := by
      have : ¬ l.length = A.length := by omega
      have h2 : A.length ≤ l.length := by omega
      simp [slcV, bnds, bnd, this, h2]
    have s2 : slcV 1 (.sl c 0 l.length l.length 1) none (some (.int .i64 A.length)) none = some (.sl c 0 A.length l.length 1) := by
      have : ¬ l.length = 0 := by omega
      have h2 : A.length ≤ l.length := by omega
      simp [slcV, bnds, bnd, this, h2]
    have hCl : (A.map (V.int .i64) ++ (B ++ (l.drop l.length).map (V.int .i64))).length = l.length := by simp; omega
    have s3 : clrV 1 [.int .i64 0] Hx (.sl c A.length (l.length - A.length) (l.length - A.length) 1) = some (undefV, Hx.set c (.cells (ovl (A.map (V.int .i64) ++ (B ++ (l.drop l.length).map (V.int .i64))) A.length (rep (l.length - A.length) [.int .i64 0])))) := by
      simp only [clrV, b3]
      rw [if_pos (by rw [hCl]; omega)]
    simp only [upQ_e, blockQ_e, if_true, seqQ_n, wr47_2, s1, s2, s3, bd_some, bd2_some, true_and, ret47]
    refine h _ _ (hB.trans But.set) ⟨l.length, (ovl (A.map (V.int .i64) ++ (B ++ (l.drop l.length).map (V.int .i64))) A.length (rep (l.length - A.length) [.int .i64 0])).drop A.length, rfl, ?_⟩
    rw [List.getElem?_set]
    simp only [hlc, if_true]
    have ot := ovl_take (cs := A.map (V.int .i64) ++ (B ++ (l.drop l.length).map (V.int .i64))) (xs := rep (l.length - A.length) [.int .i64 0]) (o := A.length) (by rw [hCl]; omega)
    have e2 : (A.map (V.int .i64) ++ (B ++ (l.drop l.length).map (V.int .i64))).take A.length = A.map (V.int .i64) := by
      rw [List.take_append_of_le_length (by simp)]
      exact List.take_of_length_le (by simp)
    rw [e2] at ot
    conv => lhs; rw [← List.take_append_drop A.length (ovl _ _ _), ot]
end Go.Proofs.Ytoommmeapdkopaa.E
namespace Go.Proofs.Ytoommmeapdkopaa.E
open Go Go.Eng

theorem c_before_all {x : tShop.D} {v : V} (hx : tShop.V x v) (he : shopErr x (decide ((orderL x.1).length < x.1.length)) = 0) {H : Heap} {k : V → Heap → Prop}
    (h : ∀ r, Tab x.1 r → k r H) : Cl G 46 [v] H k := by
  by_cases h0 : x.1.length = 0
  · refine cBefore0 hx h0 he (h .z0 ?_)
    unfold Tab
    rw [h0]
    exact ⟨[], by simp, by simp, by simp, by simp [top], by simp, .inr ⟨rfl, .inr (.inl rfl)⟩⟩
  · exact c46 hx (by omega) he h
theorem cDelete0 {x0 : V} (hx : x0 = .nils ∨ x0 = .z0) {H : Heap} {f : FuncId} {caps caps' : List V} (hcl : closeV H closeDepth (.fn f caps) = some (.fn f caps')) {k : V → Heap → Prop} (h : k x0 H) : Cl G 47 [x0, .fn f caps] H k := by
  refine Cl.inline (F := i47) rfl rfl ?_
  rw [w47]
  have hv : closeV H closeDepth x0 = some x0 := by rcases hx with rfl | rfl <;> rfl
  have ha : Arr 1 tI.R x0 [] := ints_arr (by simp [top]) (by simp) (.inr ⟨rfl, by rcases hx with rfl | rfl <;> simp⟩)
  simp only [Bool.true_or, true_and]
  refine cIndexMem hv ha hcl (fun _ => false) (fun t ht => by simp at ht) (fun r hr0 => ?_) (fun r hrl _ _ => by simp at hrl)
  obtain ⟨rfl, _⟩ := hr0
  simp only [binV_eql, decide_true, bd_some, ifB_bool, if_true]
  exact h
theorem shop_mk {x : tShop.D} {a b : V} (h1 : Arr 4 tTask.R a x.1) (h2 : Arr 2 tStation.R b x.2) : tShop.V x (.agg [a, b]) := ⟨[a, b], rfl, [a], [b], rfl, ⟨a, rfl, h1⟩, b, rfl, h2⟩
theorem task_mk {t : tTask.D} {w : V} (h1 : t.1.length ≤ top) (h2 : IntKind.i64.min ≤ t.2.1 ∧ t.2.1 ≤ IntKind.i64.max) (h3 : t.2.2.1.length ≤ top) (hw : Arr 1 tI.R w t.2.2.2) : tTask.R t [.str t.1, .int .i64 t.2.1, .str t.2.2.1, w] :=
  ⟨[.str t.1], _, rfl, ⟨rfl, h1⟩, [.int .i64 t.2.1], _, rfl, ⟨rfl, h2⟩, [.str t.2.2.1], _, rfl, ⟨rfl, h3⟩, w, rfl, hw⟩
theorem station_mk {t : tStation.D} {w : V} (h1 : t.1.length ≤ top) (hw : Arr 1 (Ty.R .str) w t.2) : tStation.R t [.str t.1, w] := ⟨[.str t.1], _, rfl, ⟨rfl, h1⟩, w, rfl, hw⟩
theorem strs_arr {v : V} {l : List (List UInt8)} (hb : l.length ≤ top) (hr : ∀ x ∈ l, x.length ≤ top) (hv : v = .ro (l.map V.str) l.length ∨ (l.length = 0 ∧ (v = .nils ∨ v = .z0 ∨ v = .e0))) : Arr 1 (Ty.R .str) v l := by
  refine ⟨l.map fun x => [V.str x], by simp, fun i h h' => ?_, ?_, hb, ?_, ?_⟩
  · simp only [List.getElem_map]; exact ⟨rfl, hr _ (List.getElem_mem _)⟩
  · intro c hc; obtain ⟨a, _, rfl⟩ := List.mem_map.1 hc; rfl
  · rw [flatS]; simp
  · rw [flatS]; exact hv
theorem els_arr {α : Type} {k : Nat} {R : α → List V → Prop} {L : List α} {en : α → List V × List V} {v' : V} (hn : L.length ≤ top)
    (h : (L.map en = [] ∧ v' = .nils) ∨ ∃ css' : List (List V), v' = .ro css'.flatten (L.map en).length ∧ css'.length = (L.map en).length ∧ (∀ c ∈ css', c.length = k) ∧ ∀ i (h : i < (L.map en).length) (h' : i < css'.length), ∃ w, css'[i] = (L.map en)[i].1 ++ [w] ∧ (w = .ro (L.map en)[i].2 (L.map en)[i].2.length ∨ ((L.map en)[i].2 = [] ∧ (w = .nils ∨ w = .z0))))
    (hR : ∀ x ∈ L, ∀ w, (w = .ro (en x).2 (en x).2.length ∨ ((en x).2 = [] ∧ (w = .nils ∨ w = .z0))) → R x ((en x).1 ++ [w])) : Arr k R v' L := by
  rcases h with ⟨h, rfl⟩ | ⟨css, rfl, h1, h2, h3⟩
  · obtain rfl := List.map_eq_nil_iff.1 h
    exact ⟨[], rfl, by simp, by simp, by simp [top], by simp, .inr ⟨rfl, .inl rfl⟩⟩
  · rw [List.length_map] at h1
    refine ⟨css, h1, fun i i1 i2 => ?_, h2, hn, by rw [flatten_len css h2, h1], .inl (by rw [List.length_map])⟩
    obtain ⟨w, e1, e2⟩ := h3 i (by simpa using i1) i2
    rw [e1]
    simp only [List.getElem_map] at e2 ⊢
    exact hR _ (List.getElem_mem i1) w e2

def enT (t : tTask.D) : List V × List V := ([.str t.1, .int .i64 t.2.1, .str t.2.2.1], t.2.2.2.map (V.int .i64))
def enS (s : tStation.D) : List V × List V := ([.str s.1], s.2.map V.str)
theorem redL_out {T : List tTask.D} {i : Nat} : (aft T i).filter (fun y => !outB T (aft T i) y) = redL T i := rfl
theorem bslV_k {k : Nat} {H : Heap} {zs c : List V} (hz : zs.length = k) (hc : c.length = k) (hk : 1 < k) : bslV k 1 zs [(0, k, .agg c)] H = some (.sl H.length 0 1 1 k, H ++ [.cells c]) := by
  have : ovl zs 0 c = c := by
    unfold ovl
    split
    · simp at hc; omega
    · rw [List.take_zero, List.nil_append, List.drop_of_length_le (by omega), List.append_nil]
  simp [bslV, rep, fillV, cellsV, notTup, hc, hz, this]

theorem stV_all {H : Heap} {id k : Nat} {cs c : List V} (h : H[id]? = some (.cells cs)) (h1 : cs.length = k) (h2 : c.length = k) (hk : 1 < k) : stV H k (.ptr id 0) (.agg c) = some (H.set id (.cells c)) := by
  have : ovl cs 0 c = c := by
    unfold ovl
    split
    · simp at h2; omega
    · rw [List.take_zero, List.nil_append, List.drop_of_length_le (by omega), List.append_nil]
  simp only [stV, cellsV, h2, notTup, and_self, if_true, wrt, h, Nat.zero_add]
  rw [if_pos (by omega), this]
theorem tools_le {S : List tStation.D} (h : stationsErr S = 0) {i : Nat} (hi : i < S.length) : S[i].2.length ≤ 16 := by
  have := firstErr_zero.1 h i hi
  rw [stationErrAt_of hi] at this
  unfold stationErr at this
  split at this
  · omega
  split at this
  · omega
  split at this
  · omega
  · rename_i h; omega

theorem ok_Reduce {x : tShop.D} {v : V} (hx : tShop.V x v) (he : shopErr x (decide ((orderL x.1).length < x.1.length)) = 0) {H : Heap} {k : V → Heap → Prop}
    (h : ∀ r, tShop.V (redT x.1, x.2) r → k (.tup [r, .int .i64 0]) H) : Cl G 17 [v] H k := by
  obtain ⟨a, b, rfl, g1, g2⟩ := shop_v hx
  obtain ⟨z1, z2, z3, z4⟩ := shopErr_zero he
  have vl := vld_of he
  refine Cl.mode1 (F := i17) rfl rfl (by simp [g1.closed, g2.closed]) ?_
  rw [w17]
  have len0 : ([] : Heap).length = 0 := rfl
  simp only [bxrV_agg, closedVs_cons, closedVs_nil, g1.closed, g2.closed, Bool.and_self, bd_some, newB, len0, List.nil_append, ldV_s2, Bool.true_or, true_and]
  refine c29 hx ?_
  rw [he]
  simp only [binV_neq, decide_true, Bool.not_true, bd_some, ifB_bool, Bool.false_eq_true, if_false, ldV_s2, Bool.true_or, true_and]
  refine c_before_all hx he fun bv hbv => ?_
  have st1 : stV ([.cells [.nils, .nils]] ++ [.cells [.nils]]) 1 (.ptr 1 0) bv = some [.cells [.nils, .nils], .cells [bv]] := by
    have := stV_own (H := [.cells [.nils, .nils]] ++ [.cells [.nils]]) (id := 1) (off := 0) (cs := [.nils]) (x := bv) rfl (by simp) hbv.one
    simpa using this
  simp only [newB, List.length_cons, List.length_nil, Nat.zero_add, st1, bd_some, fadrV_rptr, List.drop_zero, ldV_one, g1.lens, true_and]
  refine ub17_0 x.1.length (fun m c1 c2 c5 c6 c20 c21 c22 H => c1 = .rptr [a, b] ∧ c2 = .ptr 0 0 ∧ c5 = .ptr 1 0 ∧ c6 = .ptr 2 0 ∧ a = c20 ∧ c21 = .int .i64 x.1.length ∧ c22 = .int .i64 m ∧ H[0]? = some (.cells [.nils, .nils]) ∧ H[1]? = some (.cells [bv]) ∧ ∃ tv, H[2]? = some (.cells [tv, .nils]) ∧ OwnL 4 H tv (((redT x.1).take m).map enT)) ?_ 0 (Nat.zero_le _)
    ⟨rfl, rfl, rfl, rfl, rfl, rfl, rfl, rfl, rfl, .nils, rfl, .inl ⟨by simp, rfl⟩⟩
  rintro m hm _ _ _ _ _ _ _ H2 ⟨rfl, rfl, rfl, rfl, rfl, rfl, rfl, b0, b1, tv, b2, hT⟩
  intros
  rw [wb17_0]
  simp only [bd_some, binV_lss, ifB_bool, decide_eq_true_eq, Int.ofNat_lt]
  split
  · rename_i hlt
    obtain ⟨w, r, e, q⟩ := task_at g1 hlt
    have hal : aft x.1 m = x.1[m].2.2.2 := aft_of hlt
    have l3 : 3 ≤ H2.length := by have := (List.getElem?_eq_some_iff.1 b2).1; omega
    have hredm : (redT x.1)[m]'(by rw [redT_len]; exact hlt) = (x.1[m].1, x.1[m].2.1, x.1[m].2.2.1, redL x.1 m) := by
      have := redT_get hlt
      rw [List.getElem?_eq_getElem (by rw [redT_len]; exact hlt)] at this
      exact Option.some.inj this
    have tk1 : ((redT x.1).take (m + 1)).map enT = ((redT x.1).take m).map enT ++ [([.str x.1[m].1, .int .i64 x.1[m].2.1, .str x.1[m].2.2.1], (redL x.1 m).map (V.int .i64))] := by
      rw [tk (by rw [redT_len]; exact hlt), hredm, List.map_append]; rfl
    have hll : x.1[m].2.2.2.length ≤ 1000 := by
      have hnd : ((aft x.1 m).map Int.toNat).Nodup := by
        rw [List.nodup_iff_pairwise_ne, List.pairwise_map]
        refine List.Pairwise.imp_of_mem ?_ (aft_inc z3 m)
        intro p q hp hq hpq
        have := vl.rg m hlt p hp
        have := vl.rg m hlt q hq
        omega
      have := nodup_len x.1.length _ hnd (fun d hd => by
        obtain ⟨y, hy, rfl⟩ := List.mem_map.1 hd
        have := vl.rg m hlt y hy
        omega)
      rw [List.length_map, hal] at this
      omega
    have wm : IntKind.i64.wrap ((m : Int) + 1) = ((m + 1 : Nat) : Int) := wi (by omega) (by omega)
    simp only [e, bd_some, ldV_t4, newB]
    rw [stV_fill (k := 4) rfl rfl]
    generalize hc4 : [V.str x.1[m].1, .int .i64 x.1[m].2.1, .str x.1[m].2.2.1, w] = c4
    have gt1 : (H2 ++ [B.cells c4])[H2.length]? = some (.cells c4) := by simp
    have lw : ldV (H2 ++ [B.cells c4]) (.ptr H2.length 3) 1 false = some w := ldV_own gt1 (by rw [← hc4]; rfl)
    simp only [bd_some, true_and, fadrV_ptr, Nat.zero_add, lw, Bool.true_or]

    have rest : ∀ (r : V) (H3 : Heap), H2.length + 1 ≤ H3.length → (∀ id, id < H2.length + 1 → H3[id]? = (H2 ++ [B.cells c4])[id]?) → (((r = .nils ∨ r = .z0) ∧ redL x.1 m = []) ∨ ∃ cap rest, r = .sl (H2.length + 1) 0 (redL x.1 m).length cap 1 ∧ H3[H2.length + 1]? = some (.cells ((redL x.1 m).map (V.int .i64) ++ rest))) →
        ∃ (H4 H5 H6 H7 : Heap) (tv ag sv tv' : V), stV H3 1 (.ptr H2.length 3) r = some H4 ∧ ldV H4 (.ptr 2 0) 1 false = some tv ∧ ldV H4 (.ptr H2.length 0) 4 true = some ag ∧ bslV 4 1 [.str [], .int .i64 0, .str [], .nils] [(0, 4, ag)] H4 = some (sv, H5) ∧ appV 4 64 true H5 tv sv = some (tv', H6) ∧ stV H6 1 (.ptr 2 0) tv' = some H7 ∧
          H7[0]? = some (.cells [.nils, .nils]) ∧ H7[1]? = some (.cells [bv]) ∧ ∃ tv, H7[2]? = some (.cells [tv, .nils]) ∧ OwnL 4 H7 tv (((redT x.1).take (m + 1)).map enT) := by
      intro r H3 k1 k2 k3
      have g3 : H3[H2.length]? = some (.cells c4) := by rw [k2 _ (by omega)]; exact gt1
      have o1 : oneC r = true := by rcases k3 with ⟨rfl | rfl, _⟩ | ⟨_, _, rfl, _⟩ <;> rfl
      have s3 := stV_own (off := 3) (x := r) g3 (by rw [← hc4]; simp) o1
      have hc5 : c4.set 3 r = [V.str x.1[m].1, .int .i64 x.1[m].2.1, .str x.1[m].2.2.1] ++ [r] := by rw [← hc4]; rfl
      rw [hc5] at s3
      generalize hH4 : H3.set H2.length (.cells ([V.str x.1[m].1, .int .i64 x.1[m].2.1, .str x.1[m].2.2.1] ++ [r])) = H4 at s3
      have hl4 : H4.length = H3.length := by rw [← hH4]; simp
      have old : ∀ id, id < H2.length → H4[id]? = H2[id]? := fun id hid => by
        rw [← hH4, List.getElem?_set_ne (by omega), k2 id (by omega), List.getElem?_append_left hid]
      have g4 : H4[H2.length]? = some (.cells ([V.str x.1[m].1, .int .i64 x.1[m].2.1, .str x.1[m].2.2.1] ++ [r])) := by
        rw [← hH4, List.getElem?_set]; simp; omega
      have d2 : ldV H4 (.ptr 2 0) 1 false = some tv := ldV_own (by rw [old 2 (by omega)]; exact b2) rfl
      have d4 : ldV H4 (.ptr H2.length 0) 4 true = some (.agg ([V.str x.1[m].1, .int .i64 x.1[m].2.1, .str x.1[m].2.2.1] ++ [r])) := ldV_own_all g4 (by simp)
      have hT4 : OwnL 4 H4 tv (((redT x.1).take m).map enT) := hT.keep fun id hid _ => old id hid
      have cm : ∀ o, (o < H2.length ∨ H3.length ≤ o) → CellB H4 o r ((redL x.1 m).map (V.int .i64)) := fun o ho => by
        rcases k3 with ⟨c, d⟩ | ⟨cap, rest, i2, i4⟩
        · exact .inl ⟨c, by rw [d]; rfl⟩
        · have := (List.getElem?_eq_some_iff.1 i4).1
          refine .inr ⟨H2.length + 1, cap, rest, by omega, by omega, by simpa using i2, ?_⟩
          rw [← hH4, List.getElem?_set_ne (by omega)]
          exact i4
      have hlm : ((redT x.1).take m).length ≤ 24 := by simp; omega
      have hvlt : ∀ o n, tv = .sl o 0 n n 4 → o < H2.length := fun o n e => by
        rcases hT with ⟨_, c⟩ | ⟨o', css, _, c, d, _⟩
        · rw [c] at e; cases e
        · rw [c] at e; injection e with e; subst e; exact (List.getElem?_eq_some_iff.1 d).1
      obtain ⟨tv', H5, p1, p2, p3, p4, p5, _⟩ := hT4.push (by omega) (hd := [V.str x.1[m].1, .int .i64 x.1[m].2.1, .str x.1[m].2.2.1]) (cs := (redL x.1 m).map (V.int .i64)) (w := r) rfl (fun o ⟨n, ho⟩ => cm o (.inl (hvlt o n ho))) (by rw [hl4]; exact cm _ (.inr (Nat.le_refl _))) (bytes := 64) (by rw [List.length_map]; unfold room; omega)
      have nv : ∀ id, id < 3 → ∀ n, tv ≠ .sl id 0 n n 4 := fun id hid n e => by
        rcases hT with ⟨_, c⟩ | ⟨o', css, c0, c, d, _⟩
        · rw [c] at e; cases e
        · rw [c] at e; injection e with e; omega
      have h5 : ∀ id, id < 3 → H5[id]? = H2[id]? := fun id hid => by rw [p4 id (by omega) (nv id hid), old id (by omega)]
      have s5 := stV_own (off := 0) (x := tv') (H := H5) (id := 2) (by rw [h5 2 (by omega)]; exact b2) (by simp) p5
      refine ⟨_, _, _, _, _, _, _, _, s3, d2, d4, bslV_k (k := 4) rfl rfl (by omega), p1, s5, by rw [List.getElem?_set_ne (by omega), h5 0 (by omega)]; exact b0, by rw [List.getElem?_set_ne (by omega), h5 1 (by omega)]; exact b1, tv', ?_, ?_⟩
      · rw [List.getElem?_set]; simp; omega
      · rw [tk1]
        exact p2.keep fun id _ h3 => List.getElem?_set_ne (by omega)
    have hne : ∀ y : Int, y ∈ x.1[m].2.2.2 → 0 ≤ y ∧ y < (x.1.length : Int) := fun y hy => vl.rg m hlt y (by rw [hal]; exact hy)
    have hcap : ∀ Hx : Heap, Hx[H2.length]? = some (.cells c4) → Hx[1]? = some (.cells [bv]) → closeV Hx closeDepth (.fn 49 [.ptr H2.length 0, .ptr 1 0]) = some (.fn 49 [.rptr c4, .rptr [bv]]) := fun Hx q1 q2 => by
      rw [show closeDepth = 11 + 1 from rfl, closeV_fn]
      simp only [mapO]
      rw [show (11 : Nat) = 10 + 1 from rfl, closeV_ptr q1, closeV_ptr q2]
      have : mapO (closeV Hx 10) c4 = some c4 := by rw [← hc4]; simp [mapO, q.close]
      simp [this, mapO, hbv.close]
    have b1' : ∀ Hx : Heap, (∀ id, id < H2.length + 1 → Hx[id]? = (H2 ++ [B.cells c4])[id]?) → Hx[H2.length]? = some (.cells c4) ∧ Hx[1]? = some (.cells [bv]) := fun Hx hk => ⟨by rw [hk _ (by omega)]; exact gt1, by rw [hk _ (by omega), List.getElem?_append_left (by omega)]; exact b1⟩
    refine c48 q hll fun r H3 hr => ?_
    rcases hr with ⟨hcs, hr, rfl⟩ | ⟨hcs, rfl, rfl⟩
    · have h0 : x.1[m].2.2.2 = [] := List.map_eq_nil_iff.1 hcs
      have hr0 : redL x.1 m = [] := by unfold redL; rw [hal, h0]; rfl
      obtain ⟨q1, q2⟩ := b1' _ fun _ _ => rfl
      refine cDelete0 hr (hcap _ q1 q2) ?_
      obtain ⟨H4, H5, H6, H7, tv, ag, sv, tv', e1, e2, e3, e4, e5, e6, f0, f1, tv2, f2, f3⟩ := rest r (H2 ++ [B.cells c4]) (by simp) (fun _ _ => rfl) (.inl ⟨hr, hr0⟩)
      simp only [fadrV_ptr, Nat.zero_add, bd_some, e1, e2, e3, e4, e5, e6, bd2_some, true_and, binV_add, wm, upQ_n, Sb17_0_eq]
      exact ⟨m + 1, by omega, by omega, rfl, f0, f1, tv2, f2, f3⟩
    · simp only [List.length_map] at hcs
      have gc : ((H2 ++ [B.cells c4]) ++ [B.cells (x.1[m].2.2.2.map (V.int .i64))])[(H2 ++ [B.cells c4]).length]? = some (.cells (x.1[m].2.2.2.map (V.int .i64))) := List.getElem?_concat_length
      have hk : ∀ id, id < H2.length + 1 → ((H2 ++ [B.cells c4]) ++ [B.cells (x.1[m].2.2.2.map (V.int .i64))])[id]? = (H2 ++ [B.cells c4])[id]? := fun id hid => List.getElem?_append_left (by simpa using hid)
      have hlc : (H2 ++ [B.cells c4]).length = H2.length + 1 := by simp
      obtain ⟨q1, q2⟩ := b1' _ hk
      have rg : ∀ y : Int, y ∈ x.1[m].2.2.2 → IntKind.i64.min ≤ y ∧ y ≤ IntKind.i64.max := fun y hy => by have := hne y hy; exact i64_mm (by omega) (by omega)
      rw [hlc] at gc ⊢
      generalize (H2 ++ [B.cells c4]) ++ [B.cells (x.1[m].2.2.2.map (V.int .i64))] = H3 at gc hk q1 q2 ⊢
      have hH3 : H2.length + 1 < H3.length := (List.getElem?_eq_some_iff.1 gc).1
      rw [List.length_map]
      refine c47 hcs gc hll rg (hcap _ q1 q2) (fun y => outB x.1 x.1[m].2.2.2 y) (fun t ht H k hk => ?_) (fun t ht Hx hB k hk' => ?_) fun r H5 hB hr => ?_
      · refine c49 hbv q hne (hne t ht) (x1 := .rptr c4) (x2 := .rptr [bv]) (p := .rptr [w]) (by rw [← hc4]; rfl) (by simp) ?_ (hk _)
        rw [show (11 : Nat) = 10 + 1 from rfl]
        simp only [closeV]
      · obtain ⟨u1, u2⟩ := b1' Hx fun id hid => by rw [hB.2 id (by omega) (by omega), hk id hid]
        have lx : H2.length < Hx.length := (List.getElem?_eq_some_iff.1 u1).1
        have u1' : (Hx ++ [B.cells [V.int .i64 t]])[H2.length]? = some (.cells c4) := by rw [List.getElem?_append_left lx]; exact u1
        have u2' : (Hx ++ [B.cells [V.int .i64 t]])[1]? = some (.cells [bv]) := by rw [List.getElem?_append_left (by omega)]; exact u2
        refine c49 hbv q hne (hne t ht) (x1 := .ptr H2.length 0) (x2 := .ptr 1 0) (p := .ptr H2.length 3) (by simp) (ldV_own u1' (by rw [← hc4]; rfl)) ?_ (hk' _ But.app ?_)
        · rw [show (11 : Nat) = 10 + 1 from rfl, closeV_ptr u2']
          simp [mapO, hbv.close]
        · have := hB.1
          exact List.getElem?_append_left (by omega)
      · have hred : (x.1[m].2.2.2.filter fun y => !outB x.1 x.1[m].2.2.2 y) = redL x.1 m := by rw [← redL_out, hal]
        rw [hred] at hr
        have hl5 := hB.1
        obtain ⟨H4, H5', H6, H7, tv, ag, sv, tv', e1, e2, e3, e4, e5, e6, f0, f1, tv2, f2, f3⟩ := rest r H5 (by omega) (fun id hid => by rw [hB.2 id (by omega) (by omega), hk id hid]) (.inr hr)
        simp only [fadrV_ptr, Nat.zero_add, bd_some, e1, e2, e3, e4, e5, e6, bd2_some, true_and, binV_add, wm, upQ_n, Sb17_0_eq]
        exact ⟨m + 1, by omega, by omega, rfl, f0, f1, tv2, f2, f3⟩
  · rename_i hge
    have em : m = x.1.length := by omega
    subst em
    have htk : (redT x.1).take x.1.length = redT x.1 := List.take_of_length_le (by rw [redT_len]; exact Nat.le_refl _)
    rw [htk] at hT
    have l3 : 3 ≤ H2.length := by have := (List.getElem?_eq_some_iff.1 b2).1; omega
    simp only [upQ_e, blockQ_e, if_true, seqQ_n, wr17_1, fadrV_rptr, List.drop_succ_cons, List.drop_zero, bd_some, ldV_one, g2.lens]
    refine ub17_2 x.2.length (fun m c2 c6 c40 c41 c42 H => c2 = .ptr 0 0 ∧ c6 = .ptr 2 0 ∧ b = c40 ∧ c41 = .int .i64 x.2.length ∧ c42 = .int .i64 m ∧ H[0]? = some (.cells [.nils, .nils]) ∧ H2.length ≤ H.length ∧ (∀ id, id < H2.length → 3 ≤ id → H[id]? = H2[id]?) ∧ ∃ sv, H[2]? = some (.cells [tv, sv]) ∧ OwnL 2 H sv ((x.2.take m).map enS) ∧ ∀ o n, sv = .sl o 0 n n 2 → H2.length ≤ o) ?_ 0 (Nat.zero_le _)
      ⟨rfl, rfl, rfl, rfl, rfl, b0, Nat.le_refl _, fun _ _ _ => rfl, .nils, b2, .inl ⟨by simp, rfl⟩, fun o n e => by cases e⟩
    rintro m hm _ _ _ _ _ H3 ⟨rfl, rfl, rfl, rfl, rfl, d0, dl, dk, sv, d2, hS, hSo⟩
    intros
    rw [wb17_2]
    simp only [bd_some, binV_lss, ifB_bool, decide_eq_true_eq, Int.ofNat_lt]
    split
    · rename_i hlt
      obtain ⟨w, r, e, q⟩ := station_at g2 hlt
      have tk1 : (x.2.take (m + 1)).map enS = (x.2.take m).map enS ++ [([.str x.2[m].1], x.2[m].2.map V.str)] := by
        rw [tk hlt, List.map_append]; rfl
      have wm : IntKind.i64.wrap ((m : Int) + 1) = ((m + 1 : Nat) : Int) := wi (by omega) (by omega)
      have lt2 : ldV H3 (.rptr (.str x.2[m].1 :: w :: r)) 2 true = some (.agg [.str x.2[m].1, w]) := ldV_all (c := [.str x.2[m].1, w]) rfl
      simp only [e, bd_some, lt2, newB]
      rw [stV_fill (k := 2) rfl rfl]
      have gt1 : (H3 ++ [B.cells [V.str x.2[m].1, w]])[H3.length]? = some (.cells [V.str x.2[m].1, w]) := by simp
      have lw : ldV (H3 ++ [B.cells [V.str x.2[m].1, w]]) (.ptr H3.length 1) 1 false = some w := ldV_own gt1 rfl
      simp only [bd_some, true_and, fadrV_ptr, Nat.zero_add, lw, Bool.true_or]
      refine c52 q (by have := tools_le z4 hlt; omega) fun r H4 hr => ?_

      have cl : H3.length + 1 ≤ H4.length ∧ (∀ id, id < H3.length + 1 → H4[id]? = (H3 ++ [B.cells [V.str x.2[m].1, w]])[id]?) ∧ ((((r = .nils ∨ r = .z0) ∧ x.2[m].2.map V.str = []) ∨ (r = .sl (H3.length + 1) 0 (x.2[m].2.map V.str).length (x.2[m].2.map V.str).length 1 ∧ H4[H3.length + 1]? = some (.cells (x.2[m].2.map V.str))))) := by
        rcases hr with ⟨c1, c2, rfl⟩ | ⟨c1, rfl, rfl⟩
        · exact ⟨by simp, fun _ _ => rfl, .inl ⟨c2, c1⟩⟩
        · refine ⟨by simp, fun id hid => List.getElem?_append_left (by simpa using hid), .inr ⟨by simp, ?_⟩⟩
          have : H3.length + 1 = (H3 ++ [B.cells [V.str x.2[m].1, w]]).length := by simp
          rw [this]; exact List.getElem?_concat_length
      obtain ⟨k1, k2, k3⟩ := cl
      clear hr
      have g3 : H4[H3.length]? = some (.cells [V.str x.2[m].1, w]) := by rw [k2 _ (by omega)]; exact gt1
      have o1 : oneC r = true := by rcases k3 with ⟨rfl | rfl, _⟩ | ⟨rfl, _⟩ <;> rfl
      have s3 := stV_own (off := 1) (x := r) g3 (by simp) o1
      generalize hH5 : H4.set H3.length (.cells ([V.str x.2[m].1, w].set 1 r)) = H5 at s3
      have hl5 : H5.length = H4.length := by rw [← hH5]; simp
      have old : ∀ id, id < H3.length → H5[id]? = H3[id]? := fun id hid => by
        rw [← hH5, List.getElem?_set_ne (by omega), k2 id (by omega), List.getElem?_append_left hid]
      have g4 : H5[H3.length]? = some (.cells ([V.str x.2[m].1] ++ [r])) := by
        rw [← hH5, List.getElem?_set]; simp; omega
      have e2 : ldV H5 (.ptr 2 1) 1 false = some sv := ldV_own (by rw [old 2 (by omega)]; exact d2) rfl
      have e4 : ldV H5 (.ptr H3.length 0) 2 true = some (.agg ([V.str x.2[m].1] ++ [r])) := ldV_own_all g4 (by simp)
      have hS5 : OwnL 2 H5 sv ((x.2.take m).map enS) := hS.keep fun id hid _ => old id hid
      have cm : ∀ o, (o < H3.length ∨ H4.length ≤ o) → CellB H5 o r (x.2[m].2.map V.str) := fun o ho => by
        rcases k3 with ⟨c, d⟩ | ⟨i2, i4⟩
        · exact .inl ⟨c, d⟩
        · have := (List.getElem?_eq_some_iff.1 i4).1
          refine .inr ⟨H3.length + 1, _, [], by omega, by omega, i2, ?_⟩
          rw [← hH5, List.getElem?_set_ne (by omega), List.append_nil]
          exact i4
      have hlm : (x.2.take m).length ≤ 8 := by simp; omega
      have hvlt : ∀ o n, sv = .sl o 0 n n 2 → o < H3.length := fun o n e => by
        rcases hS with ⟨_, c⟩ | ⟨o', css, _, c, d, _⟩
        · rw [c] at e; cases e
        · rw [c] at e; injection e with e; subst e; exact (List.getElem?_eq_some_iff.1 d).1
      obtain ⟨sv', H6, p1, p2, p3, p4, p5, p6⟩ := hS5.push (by omega) (hd := [V.str x.2[m].1]) (cs := x.2[m].2.map V.str) (w := r) rfl (fun o ⟨n, ho⟩ => cm o (.inl (hvlt o n ho))) (by rw [hl5]; exact cm _ (.inr (Nat.le_refl _))) (bytes := 40) (by rw [List.length_map]; unfold room; omega)
      have nv : ∀ id, id < H2.length → ∀ n, sv ≠ .sl id 0 n n 2 := fun id hid n e => by have := hSo id n e; omega
      have h6 : ∀ id, id < H2.length → H6[id]? = H3[id]? := fun id hid => by rw [p4 id (by omega) (nv id hid), old id (by omega)]
      have s5 := stV_own (off := 1) (x := sv') (H := H6) (id := 2) (by rw [h6 2 (by omega)]; exact d2) (by simp) p5
      have eb := bslV_k (k := 2) (H := H5) (zs := [.str [], .nils]) (c := [V.str x.2[m].1] ++ [r]) rfl rfl (by omega)
      simp only [s3, bd_some, e2, e4, eb, bd2_some, p1, s5, true_and, binV_add, wm, upQ_n, Sb17_2_eq]
      refine ⟨m + 1, by omega, by omega, rfl, by rw [List.getElem?_set_ne (by omega), h6 0 (by omega)]; exact d0, by simp; omega, fun id hid h3 => by rw [List.getElem?_set_ne (by omega), h6 id hid, dk id hid h3], sv', ?_, ?_, fun o n e => by have := p6 o n e; omega⟩
      · rw [List.getElem?_set]; simp; omega
      · rw [tk1]
        exact p2.keep fun id _ h3 => List.getElem?_set_ne (by omega)
    · rename_i hge
      have em : m = x.2.length := by omega
      subst em
      rw [List.take_length] at hS
      have ld : ldV H3 (.ptr 2 0) 2 true = some (.agg [tv, sv]) := ldV_own_all d2 rfl
      have st := stV_all (k := 2) (c := [tv, sv]) d0 rfl rfl (by omega)
      have g0 : (H3.set 0 (B.cells [tv, sv]))[0]? = some (.cells [tv, sv]) := by rw [List.getElem?_set, if_pos rfl, if_pos (by omega)]
      have rd0 : rd (H3.set 0 (B.cells [tv, sv])) (.ptr 0 0) 2 = some [tv, sv] := by simp [rd, g0]
      have hT4 : OwnL 4 (H3.set 0 (B.cells [tv, sv])) tv ((redT x.1).map enT) := hT.keep fun id hid h3 => by rw [List.getElem?_set_ne (by omega), dk id hid h3]
      have hS4 : OwnL 2 (H3.set 0 (B.cells [tv, sv])) sv (x.2.map enS) := hS.keep fun id hid h3 => List.getElem?_set_ne (by omega)
      simp only [upQ_e, blockQ_e, if_true, seqQ_n, wr17_3, ld, st, bd_some, true_and, ret17, resultV, mapO, result1, List.getD_cons_zero, List.getD_cons_succ, rd0, Option.bind_some, packV, Option.map_some]
      obtain ⟨u, c1, c2⟩ := hT4.close (d := 8) (fun e he => by
        obtain ⟨t, _, rfl⟩ := List.mem_map.1 he
        exact ⟨by simp [enT, mapO], mapO_ints (d := 7) _⟩)
      obtain ⟨w, c3, c4⟩ := hS4.close (d := 8) (fun e he => by
        obtain ⟨t, _, rfl⟩ := List.mem_map.1 he
        exact ⟨by simp [enS, mapO], mapO_strs (d := 7) _⟩)
      refine hq_some (v' := .tup [.agg [u, w], .int .i64 0]) ?_ (h _ (shop_mk (els_arr (by rw [redT_len]; unfold top; omega) c2 fun t ht w hw => ?_) (els_arr (by simp only [top]; omega) c4 fun t ht w hw => ?_)))
      · rw [show closeDepth = 11 + 1 from rfl, closeV_tup]
        simp only [mapO]
        rw [show (11 : Nat) = 10 + 1 from rfl, closeV_agg]
        simp only [mapO, c1, c3, closeV_int, Option.bind_some, Option.map_some]
      · obtain ⟨i, hi, rfl⟩ := List.mem_iff_getElem.1 ht
        have hi' : i < x.1.length := by rw [redT_len] at hi; exact hi
        have hget : (redT x.1)[i] = (x.1[i].1, x.1[i].2.1, x.1[i].2.2.1, redL x.1 i) := by
          have := redT_get hi'
          rw [List.getElem?_eq_getElem hi] at this
          exact Option.some.inj this
        have tp := task_top g1 _ (List.getElem_mem hi')
        have hd := dur_rng z3 hi'
        have hdm := i64_mm (x := dur x.1 i) (by omega) (by omega)
        rw [dur_of hi'] at hdm
        rw [hget] at hw ⊢
        refine task_mk (t := (x.1[i].1, x.1[i].2.1, x.1[i].2.2.1, redL x.1 i)) tp.1 hdm tp.2 (ints_arr ?_ ?_ ?_)
        · have h1 := (redL_sub (T := x.1) (i := i)).length_le
          obtain ⟨_, _, _, q⟩ := task_at g1 hi'
          have h2 := q.le
          rw [aft_of hi'] at h1
          exact Nat.le_trans h1 h2
        · intro (y : Int) hy
          have : 0 ≤ y ∧ y < (x.1.length : Int) := vl.rg i hi' y (redL_sub.subset hy)
          exact i64_mm (by omega) (by omega)
        · rcases hw with hw | ⟨hw1, hw2⟩
          · left; simpa [enT] using hw
          · refine .inr ⟨?_, hw2.imp id .inl⟩
            have := congrArg List.length hw1
            simpa [enT] using this
      · obtain ⟨i, hi, rfl⟩ := List.mem_iff_getElem.1 ht
        have st1 := station_top g2 _ (List.getElem_mem hi)
        obtain ⟨_, _, _, q⟩ := station_at g2 hi
        refine station_mk st1 (strs_arr q.le (strs_top q) ?_)
        rcases hw with hw | ⟨hw1, hw2⟩
        · left; simpa [enS] using hw
        · refine .inr ⟨?_, hw2.imp id .inl⟩
          have := congrArg List.length hw1
          simpa [enS] using this
end Go.Proofs.Ytoommmeapdkopaa.E
namespace Go.Proofs.Ytoommmeapdkopaa.E
open Go Go.Eng

end Go.Proofs.Ytoommmeapdkopaa.E
namespace Go.Proofs.Ytoommmeapdkopaa.E
open Go Go.Eng

theorem lists_at {v : V} {L : List (List Int)} (h : Arr 1 (Ty.R (.sl (.int .i64))) v L) {i : Nat} (hi : i < L.length) : ∃ row rest, iadrV 1 v (.int .i64 i) = some (.rptr (row :: rest)) ∧ Arr 1 tI.R row L[i] := by
  obtain ⟨c, rr, ⟨row, rfl, q⟩, _, e⟩ := h.iadr hi
  exact ⟨row, rr, e, q⟩

theorem keeps_loop {x : tShop.D} (hc : shopErr x (decide ((orderL x.1).length < x.1.length)) = 0) {av bv o : V} (ha : Arr 1 (Ty.R (.sl (.int .i64))) av ((List.range x.1.length).map fun i => ofN (befL x.1 i))) (hb : Arr 1 (Ty.R (.sl (.int .i64))) bv ((List.range x.1.length).map fun i => ofN (befL x.1 i))) (ho : Arr 1 tI.R o (ofN (orderL x.1))) {H1 : Heap} :
    Lb8_0 av bv o (.int .i64 0) H1 (blockQ 0 (seqQ G r8_3 (retQ i8 (hq 1 [] fun r _ => r = .bool true)))) := by
  obtain ⟨z1, z2, z3, z4⟩ := shopErr_zero hc
  have vl := vld_of hc
  have hOl := vl.len
  have hal : lensV av = some (.int .i64 x.1.length) := by have := ha.lens; simpa using this
  have hol : lensV o = some (.int .i64 x.1.length) := by have := ho.lens; rw [this]; simp [ofN, hOl]
  unfold Lb8_0
  intros
  refine ub8_0 x.1.length (fun m c7 c9 c17 c19 H => av = c7 ∧ bv = c9 ∧ o = c17 ∧ c19 = .int .i64 m) ?_ 0 (Nat.zero_le _) ⟨rfl, rfl, rfl, rfl⟩
  rintro m hm _ _ _ _ H2 ⟨rfl, rfl, rfl, rfl⟩
  intros
  rw [wb8_0]
  simp only [hol, bd_some, binV_lss, ifB_bool, decide_eq_true_eq, Int.ofNat_lt]
  split
  · rename_i hlt
    have hmO : m < (orderL x.1).length := by omega
    obtain ⟨r1, e1⟩ := ho.int1 (i := m) (by simpa [ofN] using hmO)
    have g1 : (ofN (orderL x.1))[m]'(by simpa [ofN] using hmO) = ((orderL x.1)[m] : Int) := by simp [ofN]
    rw [g1] at e1
    have hin := vl.lt _ (List.getElem_mem hmO)
    have hrp := fun k (h : Rch x.1 (orderL x.1)[m] k) => rch_pos vl h m hmO rfl
    generalize (orderL x.1)[m] = i at *
    have n1 : ¬ ((i : Int) < 0) := by omega
    have n2 : ¬ ((x.1.length : Int) ≤ (i : Int)) := by omega
    obtain ⟨ra, r2, e2, q2⟩ := lists_at ha (i := m) (by simpa using hlt)
    obtain ⟨rb, r3, e3, q3⟩ := lists_at hb (i := m) (by simpa using hlt)
    obtain ⟨rc, r4, e4, q4⟩ := lists_at ha (i := i) (by simpa using hin)
    simp only [List.getElem_map, List.getElem_range] at q2 q3 q4
    simp only [e1, bd_some, ldV_one, binV_lss, n1, decide_false, gdV_bool, beq_self_eq_true, wpg_true, hal, binV_geq, ge_iff_le, n2, pickV_bool, Bool.false_eq_true, if_false, e2, e3, Bool.true_or, true_and]
    refine c19 (q2.sh _) (q3.sh _) ?_
    have hbl : (befL x.1 i).length ≤ x.1.length := filter_range_len
    simp only [decide_true, unV_not, Bool.not_true, bd_some, pickV_bool, Bool.false_eq_true, if_false, ifB_bool, e1, ldV_one, e4, q4.lens]
    refine ub8_1 (ofN (befL x.1 i)).length (fun t c7 c9 c17 c19 c170 c171 c172 H => av = c7 ∧ bv = c9 ∧ o = c17 ∧ c19 = .int .i64 m ∧ rc = c170 ∧ c171 = .int .i64 (ofN (befL x.1 i)).length ∧ c172 = .int .i64 t) ?_ 0 (Nat.zero_le _) ⟨rfl, rfl, rfl, rfl, rfl, rfl, rfl⟩
    rintro t ht _ _ _ _ _ _ _ H3 ⟨rfl, rfl, rfl, rfl, rfl, rfl, rfl⟩
    intros
    rw [wb8_1]
    simp only [bd_some, binV_lss, ifB_bool, decide_eq_true_eq, Int.ofNat_lt]
    split
    · rename_i hlt2
      obtain ⟨r5, e5⟩ := q4.int1 hlt2
      obtain ⟨sv, s1, s2⟩ := ho.slc_to (i := m) (by simpa [ofN] using hmO)
      have hmem : (ofN (befL x.1 i))[t] ∈ (ofN (orderL x.1)).take m := by
        obtain ⟨k, hk, e⟩ := mem_ofN.1 (List.getElem_mem hlt2)
        rw [← e]
        obtain ⟨p, hp, hpk, hpm⟩ := hrp k (rchB_iff.1 (List.mem_filter.1 hk).2)
        have : (ofN (orderL x.1)).take m = ofN ((orderL x.1).take m) := by simp [ofN]
        rw [this, mem_ofN]
        refine ⟨k, List.mem_iff_getElem.2 ⟨p, by simp; omega, ?_⟩, rfl⟩
        rw [List.getElem_take]; exact hpk
      have wt : IntKind.i64.wrap ((t : Int) + 1) = ((t + 1 : Nat) : Int) := wi (by omega) (by simp [ofN] at hlt2; omega)
      simp only [e5, bd_some, ldV_one, s1, Bool.true_or, true_and]
      refine c22 (s2.sh _) ?_
      simp only [hmem, decide_true, unV_not, Bool.not_true, bd_some, ifB_bool, Bool.false_eq_true, if_false, binV_add, wt, upQ_n, Sb8_1_eq, true_and]
      exact ⟨t + 1, by omega, by omega, rfl⟩
    · simp only [upQ_e, blockQ_e, if_true, blockQ_n, seqQ_n, show (2 = 1) = False by decide, if_false, wr8_2, binV_add, bd_some, wi (show (m : Int) + 1 = ((m + 1 : Nat) : Int) by omega) (by omega), upQ_n, Sb8_0_eq, true_and]
      exact ⟨m + 1, by omega, by omega, rfl⟩
  · simp only [upQ_e, blockQ_e, if_true, seqQ_n, wr8_3, ret8, hq_bool]

set_option maxRecDepth 100000 in
theorem taskKeeps_true {x : tShop.D} {v : V} (hx : tShop.V x v) : Cl G 8 [v] [] fun r _ => r = .bool true := by
  obtain ⟨a, b, rfl, h1, h2⟩ := shop_v hx
  refine Cl.mode1 (F := i8) rfl rfl (by simp [h1.closed, h2.closed]) ?_
  rw [w8]
  simp only [bxrV_agg, closedVs_cons, closedVs_nil, h1.closed, h2.closed, Bool.and_self, bd_some, Bool.true_or, true_and]
  refine cknown ?_
  simp only [unV_not, Bool.not_true, bd_some, gdV_bool, beq_self_eq_true, wpg_true, ldV_s2, Bool.true_or, true_and]
  refine c11 hx ?_
  cases hfew : few x
  · simp
    exact cknown (by simp)
  obtain ⟨f1, f2, f3, f4⟩ := few_all hfew
  simp only [unV_not, Bool.not_true, bd_some, pickV_bool, Bool.false_eq_true, if_false, gdV_bool, beq_self_eq_true, wpg_true, ldV_s2, Bool.true_or, true_and]
  refine c14 hx f1 (few_aft hfew) ?_
  by_cases hc : shopErr x (decide ((orderL x.1).length < x.1.length)) = 0
  case neg =>
    simp [hc]
    exact cknown (by simp)
  obtain ⟨z1, z2, z3, z4⟩ := shopErr_zero hc
  have vl := vld_of hc
  have hc2 := shop_red hc
  have vl2 : Vld (redT x.1) (orderL (redT x.1)) := vld_of hc2
  simp only [hc, binV_neq, decide_true, Bool.not_true, bd_some, pickV_bool, Bool.false_eq_true, if_false, ifB_bool, ldV_s2, Bool.true_or, true_and]
  refine ok_Reduce hx hc fun rr hrr => ?_
  obtain ⟨ra, rb, rfl, r1, r2⟩ := shop_v hrr
  have hfr := frz_new (H := []) (cs := [ra, rb]) (by simp [r1.closed, r2.closed])
  have hst := stV_fill (H := []) (zs := [.nils, .nils]) (c := [ra, rb]) (k := 2) rfl rfl
  have lr : ldrV (.rptr [ra, rb]) 2 true = some (.agg [ra, rb]) := by simp [ldrV, rdr, packV]
  simp only [List.length_nil, List.nil_append] at hfr hst
  simp only [extV, List.getElem?_cons_zero, List.getElem?_cons_succ, bd_some, newB, List.length_nil, List.nil_append, hst, hfr, bd2_some, lr, Bool.true_or, true_and]
  refine ok_Reduce hrr hc2 fun rr2 hrr2 => ?_
  obtain ⟨sa, sb, rfl, s1, s2⟩ := shop_v hrr2
  have hfr2 := frz_new (H := [.dead]) (cs := [sa, sb]) (by simp [s1.closed, s2.closed])
  have hst2 := stV_fill (H := [.dead]) (zs := [.nils, .nils]) (c := [sa, sb]) (k := 2) rfl rfl
  have lr2 : ldrV (.rptr [sa, sb]) 2 true = some (.agg [sa, sb]) := by simp [ldrV, rdr, packV]
  simp only [List.length_cons, List.length_nil, Nat.zero_add] at hfr2 hst2
  simp only [extV, List.getElem?_cons_zero, List.getElem?_cons_succ, bd_some, newB, List.length_cons, List.length_nil, Nat.zero_add, hst2, hfr2, bd2_some, ldV_s2, Bool.true_or, true_and]
  refine okBef hx hc fun av hav => ?_
  simp only [extV, List.getElem?_cons_zero, List.getElem?_cons_succ, bd_some, lr, Bool.true_or, true_and]
  refine okBef hrr hc2 fun bv hbv => ?_
  have hbv2 : Arr 1 (Ty.R (.sl (.int .i64))) bv ((List.range x.1.length).map fun i => ofN (befL x.1 i)) := by
    have e : ((List.range (redT x.1).length).map fun i => ofN (befL (redT x.1) i)) = (List.range x.1.length).map fun i => ofN (befL x.1 i) := by
      rw [redT_len]
      refine List.map_congr_left fun i hi => ?_
      rw [befL_red vl (by simpa using hi)]
    rw [← e]; exact hbv
  simp only [extV, List.getElem?_cons_zero, List.getElem?_cons_succ, bd_some, ldV_s2, Bool.true_or, true_and]
  refine ok_Critical hx hc fun p1 f n hf hmx _ _ hp1 => ?_
  simp only [extV, List.getElem?_cons_zero, List.getElem?_cons_succ, bd_some, lr, Bool.true_or, true_and]
  refine ok_Critical hrr hc2 fun p2 f' n' hf' hmx' _ _ hp2 => ?_
  have hnn : n = n' := by
    have t1 := tail_red vl z3 hf
    refine isMx_eq (T := redT x.1) (f := f) (g := f') (isTail_eq vl2 t1 hf') ?_ hmx'
    unfold isMx
    rw [redT_len]
    exact hmx
  subst hnn
  simp only [extV, List.getElem?_cons_zero, List.getElem?_cons_succ, bd_some, ldV_s2, Bool.true_or, true_and]
  refine ok_Order hx hc fun o ho => ?_
  have hal : lensV av = some (.int .i64 x.1.length) := by have := hav.lens; simpa using this
  have hbl : lensV bv = some (.int .i64 x.1.length) := by have := hbv2.lens; simpa using this
  have hol : lensV o = some (.int .i64 x.1.length) := by have := ho.lens; rw [this]; simp [ofN, vl.len]
  simp only [extV, List.getElem?_cons_zero, List.getElem?_cons_succ, bd_some, binV_neq, decide_true, Bool.not_true, gdV_bool, beq_self_eq_true, wpg_true, pickV_bool, Bool.false_eq_true, if_false, lr, lr2, Bool.true_or, true_and]
  refine c12 hrr hrr2 ?_
  have heq : ((redT x.1, x.2) : tShop.D) = (redT (redT x.1), x.2) := by rw [redT_red vl]
  simp only [heq, decide_true, unV_not, Bool.not_true, bd_some, gdV_bool, beq_self_eq_true, wpg_true, pickV_bool, Bool.false_eq_true, if_false, hal, hbl, hol, binV_neq, fadrV_rptr, List.drop_zero, ldV_one, h1.lens, ifB_bool]
  exact keeps_loop hc hav hbv2 ho ..
end Go.Proofs.Ytoommmeapdkopaa.E
