/-
  ENGINE, part 20: regions whose order is open: any order.
-/
import Derived.Test.YtoommmeapdkopaaE19
namespace Go.Eng

section
variable {P : Program} {G : Prog} {S : Self} {pr : List Nat} {ops : Array Oper}
variable {ts : List V} {H : Heap} {r : List V × Heap} {K : Nat → Heap} {T : Nat → List V} {v : Nat → V}
variable {φ0 : Phi} {A0 : Nat → Prop} {w0 : World} {listed : Array Bool} {a : Act} {w : World} {κ : Nat} {φ : Phi} {A : Nat → Prop}

theorem Inv.bare (I : Inv P pr ops ts K v φ0 H A0 w0 listed a w κ φ A) {i : Nat} (hni : ¬ Don listed i) (hl : loud P pr ops i) (hlt : i < κ) : ∀ m, i ≤ m → m < κ → ¬ hard P pr ops m := by
  intro m h1 h2 hm
  have hd := I.low m h2 hm
  by_cases he : m = i
  · subst he; exact hni hd
  · rcases hard_orders hm hl he with ⟨_, hb⟩ | ⟨_, _⟩
    · exact hni (I.closed m i hd hb)
    · omega

theorem Inv.step (hS : CallOK P G S) (tr : Tr G S (osOf P pr ops) ts H r K T v) (hg : guardsOk ops = true) (hok : openOk ops (Region.before ops) = true) (I : Inv P pr ops ts K v φ0 H A0 w0 listed a w κ φ A)
    {i : Nat} {o : Oper} (ho : ops[i]? = some o) (hni : ¬ Don listed i) (hbits : ∀ j, Bit ops i j → Don listed j) {Q : Exit → Act → World → Prop} :
    wpOp P ops Q i (fun a' w' => ∃ κ' φ' A', Inv P pr ops ts K v φ0 H A0 w0 (listed.setIfInBounds i true) a' w' κ' φ' A') a w := by
  have hnd : noDup ops = true := by unfold openOk at hok; simp only [Bool.and_eq_true] at hok; exact hok.1.2
  have hi : i < ops.size := (Array.getElem?_eq_some_iff.1 ho).1
  have g := I.led.good
  have hslot := fun t ht => I.slot tr hok ho hni hbits (t := t) ht
  have hor : ∀ x ∈ o.op.operands, OR φ (K κ) A w (T i) a.eval x := fun x hx => .of_slot fun t he => hslot t (by
    subst he
    exact List.mem_append_left _ (List.mem_filterMap.2 ⟨.tmp t, by simpa using hx, rfl⟩))
  have hwant : ∀ b, runs (T i) (trG ops o) = some b → Region.wanted o (yielded ops a.tmps) = b := fun b hb =>
    wanted_rel (φ := φ) (H := K κ) (A := A) (w := w) hg (List.mem_of_getElem? (by simpa using ho)) hb (fun j wnt t h1 h2 => hslot t (List.mem_append_right _ (by rw [h1]; simp only; rw [h2]; simp)))
  have hst := (tr.step i _ (os_get ho)).2
  simp only [trOper] at hst
  unfold wpOp
  rw [ho]
  simp only
  by_cases hh : hard P pr ops i
  ·
    obtain rfl : i = κ := by
      rcases Nat.lt_trichotomy i κ with h | h | h
      · exact absurd (I.low i h hh) hni
      · exact h
      · rcases I.top with ht | ⟨ht, htd⟩
        · omega
        · rcases hard_orders hh ht.1 (by omega) with ⟨_, hb⟩ | ⟨_, _⟩
          · exact absurd (hbits κ hb) htd
          · omega
    have next : ∀ u w' φ' A', VR φ' (K (i + 1)) A' w' (v i) u → Led φ (K i) A w φ' (K (i + 1)) A' w' → ∃ κ' φ' A', Inv P pr ops ts K v φ0 H A0 w0 (listed.setIfInBounds i true) (a.put o.dst u) w' κ' φ' A' := by
      intro u w' φ' A' hv l
      obtain ⟨m, m1, m2, m3, m4⟩ := next_hard P pr ops (ops.size - (i + 1)) (i + 1) (by omega)
      obtain ⟨N, hN⟩ := K_grow hS tr m m1 m2 m4
      have lg : Led φ' (K (i + 1)) A' w' φ' (K m) A' w' := by rw [hN]; exact .grow l.good N
      refine ⟨m, φ', A', I.next hnd ho hni hbits (l.trans lg) (lg.vr l.good hv) m2 ?_ (fun j hj hjh => ?_) (fun j hj hjn hje hjl x h1 h2 => ?_)⟩
      · rcases m3 with h | h
        · exact .inl h
        · refine .inr ⟨h, fun hd => ?_, by omega⟩
          rcases hard_orders h hh.1 (by omega) with ⟨_, hb⟩ | ⟨_, _⟩
          · exact hni (I.closed m i hd hb)
          · omega
      · rcases Nat.lt_trichotomy j i with h | h | h
        · exact .inr (I.low j h hjh)
        · exact .inl h
        · exact absurd hjh (m4 j (by omega) hj)
      · rcases Nat.lt_trichotomy j i with h | h | h
        · rcases hard_orders hh hjl (by omega) with ⟨_, hb⟩ | ⟨_, _⟩
          · exact absurd (hbits j hb) hjn
          · omega
        · exact absurd h hje
        · obtain ⟨N', hN'⟩ := K_grow hS tr (i := i + 1) j (by omega) (by omega) (fun q q1 q2 => m4 q q1 (by omega))
          have : (K (i + 1)).length ≤ (K j).length := by rw [hN']; simp
          cases hφ : φ' x with
          | none => rfl
          | some q => have := l.good.lt hφ; omega
    rcases hst with ⟨h1, h2⟩ | ⟨h1, h2, h3⟩
    · rw [if_pos (hwant true h1), hh.2] at *
      obtain ⟨_, ht, ha⟩ := trA_some h2
      exact .inl (seq_op hS ht ha h2 g hor (fun u w' φ' A' q1 q2 => next u w' φ' A' q1 q2))
    · rw [if_neg (by rw [hwant false h1]; simp)]
      exact next undef w φ A (by rw [h2]; exact .undef) (by rw [h3]; exact .refl g)
  ·
    have next : ∀ u w' φ' A', VR φ' (K κ) A' w' (v i) u → Led φ (K κ) A w φ' (K κ) A' w' → (∀ x, φ' x ≠ φ x → i < κ ∧ loud P pr ops i ∧ (K i).length ≤ x ∧ x < (K (i + 1)).length) → ∃ κ' φ' A', Inv P pr ops ts K v φ0 H A0 w0 (listed.setIfInBounds i true) (a.put o.dst u) w' κ' φ' A' := by
      intro u w' φ' A' hv l hx
      refine ⟨κ, φ', A', I.next hnd ho hni hbits l hv I.le ?_ (fun j hj hjh => .inr (I.low j hj hjh)) (fun j hj hjn hje hjl x h1 h2 => ?_)⟩
      · rcases I.top with h | ⟨h1, h2⟩
        · exact .inl h
        · exact .inr ⟨h1, h2, fun h => hh (h ▸ h1)⟩
      · by_cases he : φ' x = φ x
        · rw [he]; exact I.free j hj hjn hjl x h1 h2
        · obtain ⟨k0, k1, k2, k3⟩ := hx x he
          exfalso
          rcases Nat.lt_trichotomy j i with h | h | h
          · obtain ⟨N', hN'⟩ := K_grow hS tr (i := j + 1) i (by omega) (by omega) (fun q q1 q2 => I.bare hjn hjl hj q (by omega) (by omega))
            have : (K (j + 1)).length ≤ (K i).length := by rw [hN']; simp
            omega
          · exact hje h
          · obtain ⟨N', hN'⟩ := K_grow hS tr (i := i + 1) j (by omega) (by have := I.le; omega) (fun q q1 q2 => I.bare hni k1 k0 q (by omega) (by omega))
            have : (K (i + 1)).length ≤ (K j).length := by rw [hN']; simp
            omega
    rcases hst with ⟨h1, h2⟩ | ⟨h1, h2, h3⟩
    · rw [if_pos (hwant true h1)]
      refine .inl ?_
      obtain ⟨_, ht, ha⟩ := trA_some h2
      by_cases hstill : still (trA P pr (fzn ops i) o) = true
      · exact still_alt hS ht ha hstill h2 g hor (fun u w' φ' A' q1 q2 q3 => next u w' φ' A' q1 q2 (fun x hx => absurd (q3 x) hx))
      · have hl : loud P pr ops i := ⟨o, ho, by simpa using hstill⟩
        have hw : mayWrite P pr ops (Region.before ops) i = false := by
          cases hm : mayWrite P pr ops (Region.before ops) i with
          | false => rfl
          | true => exact absurd ⟨hl, hm⟩ hh
        rw [hw] at h2
        have hlt : i < κ := by
          rcases I.top with ht | ⟨ht, htd⟩
          · omega
          · rcases Nat.lt_trichotomy i κ with h | h | h
            · exact h
            · exact absurd (h ▸ ht) hh
            · rcases hard_orders ht hl (by omega) with ⟨_, _⟩ | ⟨_, hb⟩
              · omega
              · exact absurd (hbits κ hb) htd
        obtain ⟨N, hN⟩ := K_grow hS tr (i := i + 1) κ hlt I.le (fun q q1 q2 => I.bare hni hl hlt q (by omega) q2)
        refine (quiet_alt hS ht ha h2 (quiet_of_false h2)).2 φ (K κ) A w a g (by rw [hN]; exact Sub.app _ _) (fun x h1 h2 => I.free i hlt hni hl x h1 h2) hor _ Q (fun u w' φ' A' q1 q2 q3 => next u w' φ' A' q1 q2 (fun x hx => ⟨hlt, hl, q3 x hx⟩))
    · rw [if_neg (by rw [hwant false h1]; simp)]
      exact next undef w φ A (by rw [h2]; exact .undef) (.refl g) (fun x hx => absurd rfl hx)

theorem Inv.final (tr : Tr G S (osOf P pr ops) ts H r K T v) (hok : openOk ops (Region.before ops) = true) (I : Inv P pr ops ts K v φ0 H A0 w0 listed a w κ φ A) (hall : ∀ i, i < ops.size → Don listed i) : Post φ0 H A0 w0 (.n, r.1, r.2) .normal a w := by
  have hnd : noDup ops = true := by unfold openOk at hok; simp only [Bool.and_eq_true] at hok; exact hok.1.2
  have hκ : κ = ops.size := by
    rcases I.top with h | ⟨⟨⟨o, ho, _⟩, _⟩, h⟩
    · exact h
    · exact absurd (hall κ (Array.getElem?_eq_some_iff.1 ho).1) h
  subst hκ
  have hk : K ops.size = r.2 := by rw [← tr.kn, os_len]
  have ht : T ops.size = r.1 := by rw [← tr.tn, os_len]
  have hl := I.led
  rw [hk] at hl
  refine ⟨rfl, φ, A, hl, I.defers, ?_, fun d => ?_⟩
  · rw [I.tsize, ← T_len tr ops.size (Nat.le_refl _), ht]
  · show VR φ r.2 A w (r.1.getD d undefV) (a.tmps.getD d undef)
    rw [← hk, ← ht]
    by_cases hlen : d < ts.length
    case neg =>
      have h1 : (T ops.size).getD d undefV = undefV := by rw [List.getD_eq_getElem?_getD, List.getElem?_eq_none (by rw [T_len tr _ (Nat.le_refl _)]; exact Nat.le_of_not_lt hlen)]; rfl
      have h2 : a.tmps.getD d undef = undef := by rw [Array.getD_eq_getD_getElem?, Array.getElem?_eq_none (by rw [I.tsize]; exact Nat.le_of_not_lt hlen)]; rfl
      rw [h1, h2]; exact .undef
    by_cases hw : ∃ j, dst ops j = some d
    · obtain ⟨j, hj⟩ := hw
      have hjlt : j < ops.size := by
        unfold dst at hj
        cases ho : ops[j]? with
        | none => rw [ho] at hj; cases hj
        | some o => exact (Array.getElem?_eq_some_iff.1 ho).1
      rw [T_new tr hnd hj hlen _ (Nat.le_refl _) hjlt]
      exact I.s1 j d (hall j hjlt) hj hlen
    · rw [T_old tr _ (Nat.le_refl _) (fun j _ h => hw ⟨j, h⟩)]
      exact I.s2 d (fun j _ h => hw ⟨j, h⟩)

theorem ready_mem {i : Nat} (h : i ∈ Region.ready .any ops listed) (hs : listed.size = ops.size) : ∃ o, ops[i]? = some o ∧ ¬ Don listed i ∧ ∀ e ∈ o.after.toList, Region.binds .any e = true → Don listed e.on := by
  unfold Region.ready at h
  simp only [List.mem_filter, List.mem_range, Bool.and_eq_true, Bool.not_eq_true'] at h
  obtain ⟨h1, h2, h3⟩ := h
  refine ⟨ops[i], Array.getElem?_eq_getElem h1, ?_, ?_⟩
  · unfold Don
    rw [Array.getD_eq_getD_getElem?, Array.getElem?_eq_getElem (by omega)] at h2 ⊢
    simp at h2 ⊢
    exact h2
  · rw [Array.getElem?_eq_getElem h1] at h3
    simp only [Option.map_some, Option.getD_some] at h3
    intro e he hb
    have := Array.all_eq_true_iff_forall_mem.1 h3 e (by simpa using he)
    unfold Don
    simpa [hb] using this

theorem ready_nil (hok : openOk ops (Region.before ops) = true) (hs : listed.size = ops.size) (h : Region.ready .any ops listed = []) : ∀ i, i < ops.size → Don listed i := by
  intro i
  induction i using Nat.strongRecOn with
  | _ i ih =>
    intro hi
    by_cases hd : Don listed i
    · exact hd
    exfalso
    have hm : i ∈ Region.ready .any ops listed := by
      unfold Region.ready
      simp only [List.mem_filter, List.mem_range, Bool.and_eq_true, Bool.not_eq_true']
      refine ⟨hi, ?_, ?_⟩
      · unfold Don at hd
        rw [Array.getD_eq_getD_getElem?, Array.getElem?_eq_getElem (by omega)] at hd ⊢
        simpa using hd
      · rw [Array.getElem?_eq_getElem hi]
        simp only [Option.map_some, Option.getD_some]
        refine Array.all_eq_true_iff_forall_mem.2 (fun e he => ?_)
        have hok' := hok
        unfold openOk edgesOk at hok'
        simp only [Bool.and_eq_true] at hok'
        have h1 := hok'.1.1
        rw [List.all_eq_true] at h1
        have h2 := h1 (ops[i], i) (by
          rw [List.mem_iff_getElem?]
          exact ⟨i, by simp [hi]⟩)
        simp only [List.all_eq_true] at h2
        have h3 := h2 e (by simpa using he)
        simp only [Bool.or_eq_true, Bool.not_eq_true', decide_eq_true_eq] at h3 ⊢
        rcases h3 with h3 | h3
        · exact .inl h3
        · exact .inr (ih e.on h3 (by omega))
    rw [h] at hm
    cases hm

theorem any_ok (hS : CallOK P G S) (tr : Tr G S (osOf P pr ops) ts H r K T v) (hg : guardsOk ops = true) (hok : openOk ops (Region.before ops) = true) : ∀ (fuel : Nat) (listed : Array Bool) (a : Act) (w : World) (κ : Nat) (φ : Phi) (A : Nat → Prop),
    Inv P pr ops ts K v φ0 H A0 w0 listed a w κ φ A → (List.range ops.size).countP (fun j => !listed.getD j false) ≤ fuel → wpAny P .any ops (Post φ0 H A0 w0 (.n, r.1, r.2)) fuel listed a w
  | 0, listed, a, w, κ, φ, A, I, hc => by
    have hall : ∀ i, i < ops.size → Don listed i := fun i hi => by
      have h0 : (List.range ops.size).countP (fun j => !listed.getD j false) = 0 := by omega
      rw [List.countP_eq_zero] at h0
      have := h0 i (List.mem_range.2 hi)
      unfold Don
      simpa using this
    refine ⟨?_, I.final tr hok hall⟩
    rw [List.eq_nil_iff_forall_not_mem]
    intro i hi
    obtain ⟨o, ho, hn, _⟩ := ready_mem hi I.size
    exact hn (hall i (Array.getElem?_eq_some_iff.1 ho).1)
  | fuel + 1, listed, a, w, κ, φ, A, I, hc => by
    refine ⟨fun hnil => I.final tr hok (ready_nil hok I.size hnil), fun i hi => ?_⟩
    obtain ⟨o, ho, hn, he⟩ := ready_mem hi I.size
    have hil : i < ops.size := (Array.getElem?_eq_some_iff.1 ho).1
    have hbits : ∀ j, Bit ops i j → Don listed j := fun j hb => by
      obtain ⟨o', ho', e, h1, h2, h3⟩ := (before_bits ops).2 i j hb
      rw [ho] at ho'; cases ho'
      have hd := he e h1 h2
      rcases h3 with h3 | h3
      · exact h3 ▸ hd
      · exact I.closed e.on j hd h3
    refine wpOp_mono ?_ (I.step hS tr hg hok ho hn hbits)
    rintro a' w' ⟨κ', φ', A', I'⟩
    refine any_ok hS tr hg hok fuel _ a' w' κ' φ' A' I' ?_
    have hlt : i < listed.size := by rw [I.size]; exact hil
    have : (List.range ops.size).countP (fun j => !(listed.setIfInBounds i true).getD j false) < (List.range ops.size).countP (fun j => !listed.getD j false) := by
      refine count_less (i := i) (fun j _ h => ?_) (List.mem_range.2 hil) ?_ ?_
      · simp only [Bool.not_eq_true'] at h ⊢
        cases hq : listed.getD j false with
        | false => rfl
        | true => rw [show (listed.setIfInBounds i true).getD j false = true from (don_set hlt).2 (.inr hq)] at h; cases h
      · unfold Don at hn; simpa using hn
      · have : (listed.setIfInBounds i true).getD i false = true := (don_set hlt).2 (.inl rfl)
        simp only [this]; rfl
    omega

theorem draw_ok (hm : P.follows .mixedOrders = true) (hS : CallOK P G S) : DrawOK P G S := by
  intro pr ops rid hg hok ts H r h φ A w a g hs
  obtain ⟨K, T, v, tr⟩ := trace _ _ _ _ h
  refine wp_region_any hm ?_
  obtain ⟨m, m1, m2, m3, m4⟩ := next_hard P pr ops ops.size 0 (by omega)
  obtain ⟨N, hN⟩ := K_grow hS tr m m1 m2 m4
  have ld : Led φ H A w φ H A w.drew := .drew g
  have lg : Led φ H A w.drew φ (K m) A w.drew := by rw [hN, tr.k0]; exact .grow ld.good N
  have hnone : ∀ i, ¬ Don (Array.replicate ops.size false) i := fun i h => by
    unfold Don at h
    rw [Array.getD_eq_getD_getElem?, Array.getElem?_replicate] at h
    split at h <;> simp at h
  have I : Inv P pr ops ts K v φ H A w (Array.replicate ops.size false) a w.drew m φ A := by
    refine ⟨by simp, fun i j hi _ => absurd hi (hnone i), m2, m3.imp id (fun h => ⟨h, hnone m⟩), fun j hj hh => absurd hh (m4 j (by omega) hj), ld.trans lg, fun j hj _ _ x h1 h2 => ?_, hs.1, hs.2.1, fun j d hj _ _ => absurd hj (hnone j), fun d _ => (ld.trans lg).vr g (hs.2.2 d)⟩
    obtain ⟨N', hN'⟩ := K_grow hS tr (i := 0) j (by omega) (by omega) (fun q q1 q2 => m4 q q1 (by omega))
    have : H.length ≤ (K j).length := by rw [hN', tr.k0]; simp
    cases hφ : φ x with
    | none => rfl
    | some q => have := g.lt hφ; omega
  refine any_ok hS tr hg hok ops.size _ a w.drew m φ A I ?_
  have := List.countP_le_length (p := fun j => !(Array.replicate ops.size false).getD j false) (l := List.range ops.size)
  simpa using this
end
end Go.Eng
