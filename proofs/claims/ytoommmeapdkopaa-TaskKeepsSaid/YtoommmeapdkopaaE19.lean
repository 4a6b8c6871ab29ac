/-
  ENGINE, part 19: regions whose order is open.
-/
import Derived.Test.YtoommmeapdkopaaE18
namespace Go.Eng

section
variable {P : Program} {G : Prog} {S : Self}

structure Tr (G : Prog) (S : Self) (os : List IOper) (ts : List V) (H : Heap) (r : List V × Heap) (K : Nat → Heap) (T : Nat → List V) (v : Nat → V) : Prop where
  k0 : K 0 = H
  t0 : T 0 = ts
  kn : K os.length = r.2
  tn : T os.length = r.1
  step : ∀ i o, os[i]? = some o → T (i + 1) = putT (T i) o.dst (v i) ∧
    ((runs (T i) o.g = some true ∧ ev1 G S o.w (T i) (K i) o.op = some (v i, K (i + 1))) ∨ (runs (T i) o.g = some false ∧ v i = undefV ∧ K (i + 1) = K i))

theorem trace : ∀ (os : List IOper) (ts : List V) (H : Heap) (r : List V × Heap), evOps G S os ts H = some r → ∃ K T v, Tr G S os ts H r K T v
  | [], ts, H, r, h => by
    simp only [evOps, Option.some.injEq] at h
    subst h
    exact ⟨fun _ => H, fun _ => ts, fun _ => undefV, rfl, rfl, rfl, rfl, fun i o ho => by simp at ho⟩
  | o :: os, ts, H, r, h => by
    simp only [evOps, Option.bind_eq_some_iff] at h
    obtain ⟨go, hgo, h⟩ := h
    have key : ∀ (v1 : V) (ts1 : List V) (H1 : Heap), evOps G S os ts1 H1 = some r → ts1 = putT ts o.dst v1 →
        ((runs ts o.g = some true ∧ ev1 G S o.w ts H o.op = some (v1, H1)) ∨ (runs ts o.g = some false ∧ v1 = undefV ∧ H1 = H)) → ∃ K T v, Tr G S (o :: os) ts H r K T v := by
      intro v1 ts1 H1 h1 h2 h3
      obtain ⟨K, T, v, tr⟩ := trace os ts1 H1 r h1
      refine ⟨fun i => match i with | 0 => H | i + 1 => K i, fun i => match i with | 0 => ts | i + 1 => T i, fun i => match i with | 0 => v1 | i + 1 => v i, rfl, rfl, tr.kn, tr.tn, fun i o' ho => ?_⟩
      cases i with
      | zero =>
        simp only [List.getElem?_cons_zero, Option.some.injEq] at ho
        subst ho
        simp only [tr.k0, tr.t0]
        exact ⟨h2, h3⟩
      | succ i => exact tr.step i o' (by simpa using ho)
    cases go with
    | true =>
      simp only [if_true, Option.bind_eq_some_iff] at h
      obtain ⟨⟨v1, H1⟩, h1, h2⟩ := h
      exact key v1 _ H1 h2 rfl (.inl ⟨hgo, h1⟩)
    | false =>
      simp only [Bool.false_eq_true, if_false] at h
      exact key undefV _ H h rfl (.inr ⟨hgo, rfl, rfl⟩)

theorem fold_bit (B : Array Nat) (j : Nat) : ∀ (l : List Edge) (s : Nat), (l.foldl (fun s e => if Region.binds .any e then s ||| 2 ^ e.on ||| B.getD e.on 0 else s) s).testBit j = true →
    s.testBit j = true ∨ ∃ e ∈ l, Region.binds .any e = true ∧ (e.on = j ∨ (B.getD e.on 0).testBit j = true)
  | [], s, h => .inl h
  | e :: l, s, h => by
    simp only [List.foldl_cons] at h
    rcases fold_bit B j l _ h with h | ⟨e', he, h⟩
    · by_cases hb : Region.binds .any e = true
      · rw [if_pos hb, Nat.testBit_or, Nat.testBit_or, Bool.or_eq_true, Bool.or_eq_true] at h
        rcases h with (h | h) | h
        · exact .inl h
        · rw [Nat.testBit_two_pow] at h
          exact .inr ⟨e, by simp, hb, .inl (by simpa using h)⟩
        · exact .inr ⟨e, by simp, hb, .inr h⟩
      · rw [if_neg hb] at h; exact .inl h
    · exact .inr ⟨e', by simp [he], h⟩

theorem before_bits (ops : Array Oper) : (Region.before ops).size = ops.size ∧ ∀ i j, ((Region.before ops).getD i 0).testBit j = true →
    ∃ o, ops[i]? = some o ∧ ∃ e ∈ o.after.toList, Region.binds .any e = true ∧ (e.on = j ∨ ((Region.before ops).getD e.on 0).testBit j = true) := by
  have key : ∀ l : List Oper, let B := l.foldl (fun (acc : Array Nat) o => acc.push (o.after.foldl (fun s e => if Region.binds .any e then s ||| 2 ^ e.on ||| acc.getD e.on 0 else s) 0)) #[]
      B.size = l.length ∧ ∀ i j, (B.getD i 0).testBit j = true → ∃ o, l[i]? = some o ∧ ∃ e ∈ o.after.toList, Region.binds .any e = true ∧ (e.on = j ∨ (B.getD e.on 0).testBit j = true) := by
    intro l
    generalize hn : l.length = n
    induction n generalizing l with
    | zero => obtain rfl := List.eq_nil_of_length_eq_zero hn; exact ⟨rfl, fun i j h => by simp at h⟩
    | succ n ihn =>
      obtain ⟨l, o, hl⟩ := (List.eq_nil_or_concat l).resolve_left (by rintro rfl; simp at hn)
      rw [List.concat_eq_append] at hl
      subst hl
      have ih := ihn l (by simpa using hn)
      clear ihn
      obtain rfl : l.length = n := by simpa using hn
      simp only [List.foldl_append, List.foldl_cons, List.foldl_nil] at ih ⊢
      generalize l.foldl (fun (acc : Array Nat) o => acc.push (o.after.foldl (fun s e => if Region.binds .any e then s ||| 2 ^ e.on ||| acc.getD e.on 0 else s) 0)) #[] = B at ih ⊢
      obtain ⟨ih1, ih2⟩ := ih
      have hg : ∀ (x i : Nat), i < B.size → (B.push x).getD i 0 = B.getD i 0 := fun x i hi => by
        simp only [Array.getD_eq_getD_getElem?, Array.getElem?_push, if_neg (Nat.ne_of_lt hi)]
      have hup : ∀ (x i j : Nat), (B.getD i 0).testBit j = true → ((B.push x).getD i 0).testBit j = true := fun x i j h => by
        by_cases hi : i < B.size
        · rw [hg x i hi]; exact h
        · simp only [Array.getD_eq_getD_getElem?, Array.getElem?_eq_none (Nat.le_of_not_lt hi)] at h; simp at h
      refine ⟨by simp [ih1], fun i j h => ?_⟩
      by_cases hi : i < B.size
      · rw [hg _ i hi] at h
        obtain ⟨o', h1, e, h2, h3, h4⟩ := ih2 i j h
        exact ⟨o', by rw [List.getElem?_append_left (by omega)]; exact h1, e, h2, h3, h4.imp id (hup _ _ _)⟩
      · by_cases hi' : i = B.size
        · subst hi'
          have : (B.push (o.after.foldl (fun s e => if Region.binds .any e then s ||| 2 ^ e.on ||| B.getD e.on 0 else s) 0)).getD B.size 0 = (o.after.foldl (fun s e => if Region.binds .any e then s ||| 2 ^ e.on ||| B.getD e.on 0 else s) 0) := by
            simp only [Array.getD_eq_getD_getElem?, Array.getElem?_push]; simp
          rw [this, ← Array.foldl_toList] at h
          rcases fold_bit B j _ 0 h with h | ⟨e, h2, h3, h4⟩
          · simp at h
          · exact ⟨o, by rw [ih1]; simp, e, h2, h3, h4.imp id (hup _ _ _)⟩
        · rw [Array.getD_eq_getD_getElem?, Array.getElem?_eq_none (by simp; omega)] at h
          simp at h
  have := key ops.toList
  unfold Region.before
  rw [← Array.foldl_toList]
  simpa using this

theorem count_less {p p' : Nat → Bool} {i : Nat} : ∀ {l : List Nat}, (∀ j ∈ l, p' j = true → p j = true) → i ∈ l → p i = true → p' i = false → l.countP p' < l.countP p
  | [], _, h, _, _ => by simp at h
  | j :: l, hp, hi, h1, h2 => by
    have hle : l.countP p' ≤ l.countP p := List.countP_mono_left (fun j hj => hp j (by simp [hj]))
    simp only [List.countP_cons]
    rcases List.mem_cons.1 hi with rfl | hi
    · simp [h1, h2]; omega
    · have := count_less (fun j hj => hp j (by simp [hj])) hi h1 h2
      have hj := hp j (by simp)
      by_cases hq : p' j = true
      · simp [hq, hj hq]; omega
      · simp [hq]; omega

section
variable {pr : List Nat} {ops : Array Oper}
def dst (ops : Array Oper) (i : Nat) : Option Tmp := (ops[i]?).bind (·.dst)
def fzn (ops : Array Oper) (i : Nat) : Bool := frozen ops (Region.before ops) i
def loud (P : Program) (pr : List Nat) (ops : Array Oper) (i : Nat) : Prop := ∃ o, ops[i]? = some o ∧ still (trA P pr (fzn ops i) o) = false
def hard (P : Program) (pr : List Nat) (ops : Array Oper) (i : Nat) : Prop := loud P pr ops i ∧ mayWrite P pr ops (Region.before ops) i = true
def Don (listed : Array Bool) (i : Nat) : Prop := listed.getD i false = true
def Bit (ops : Array Oper) (i j : Nat) : Prop := ((Region.before ops).getD i 0).testBit j = true

theorem noDup_spec (h : noDup ops = true) {i j : Nat} {d : Tmp} (hi : dst ops i = some d) (hj : dst ops j = some d) : i = j := by
  have hlt : ∀ {i}, dst ops i = some d → i < ops.size := fun {i} hi => by
    unfold dst at hi
    cases ho : ops[i]? with
    | none => rw [ho] at hi; cases hi
    | some o => exact (Array.getElem?_eq_some_iff.1 ho).1
  unfold noDup at h
  rw [List.all_eq_true] at h
  have := h i (List.mem_range.2 (hlt hi))
  rw [List.all_eq_true] at this
  have := this j (List.mem_range.2 (hlt hj))
  unfold dst at hi hj
  rw [hi, hj] at this
  simpa using this

theorem ordered_spec {i j : Nat} (h : ordered (Region.before ops) i j = true) : (j < i ∧ Bit ops i j) ∨ (i < j ∧ Bit ops j i) := by
  simpa [ordered, Bit] using h

theorem hard_orders {i j : Nat} (h : hard P pr ops i) (hj : loud P pr ops j) (hne : i ≠ j) : (j < i ∧ Bit ops i j) ∨ (i < j ∧ Bit ops j i) := by
  obtain ⟨_, hm⟩ := h
  obtain ⟨o, ho, hs⟩ := hj
  unfold mayWrite at hm
  rw [List.all_eq_true] at hm
  have := hm j (List.mem_range.2 (Array.getElem?_eq_some_iff.1 ho).1)
  rw [ho] at this
  change still (trA P pr (frozen ops (Region.before ops) j) o) = false at hs
  simp only [hs, Bool.or_false, Bool.or_eq_true, beq_iff_eq, hne, false_or] at this
  exact ordered_spec this

theorem reads_spec (h : openOk ops (Region.before ops) = true) {i j : Nat} {o : Oper} {d : Tmp} (ho : ops[i]? = some o) (hj : dst ops j = some d) (hl : d ∈ o.looksAt ops) (hne : i ≠ j) : (j < i ∧ Bit ops i j) ∨ (i < j ∧ Bit ops j i) := by
  unfold openOk at h
  simp only [Bool.and_eq_true, List.all_eq_true] at h
  have hlt : j < ops.size := by
    unfold dst at hj
    cases ho : ops[j]? with
    | none => rw [ho] at hj; cases hj
    | some o => exact (Array.getElem?_eq_some_iff.1 ho).1
  have h1 := h.2 i (List.mem_range.2 (Array.getElem?_eq_some_iff.1 ho).1)
  unfold readsOk at h1
  rw [ho] at h1
  simp only [List.all_eq_true] at h1
  have h2 := h1 j (List.mem_range.2 hlt)
  unfold dst at hj
  rw [hj] at h2
  simp only [Bool.or_eq_true, beq_iff_eq, hne, false_or, Bool.not_eq_true'] at h2
  rcases h2 with h2 | h2
  · simp at h2; exact absurd hl h2
  · exact ordered_spec h2

variable {ts : List V} {H : Heap} {r : List V × Heap} {K : Nat → Heap} {T : Nat → List V} {v : Nat → V}

abbrev osOf (P : Program) (pr : List Nat) (ops : Array Oper) : List IOper := ops.toList.zipIdx.map fun p => trOper P pr ops (fzn ops p.2) (mayWrite P pr ops (Region.before ops) p.2) p.1
theorem os_get {i : Nat} {o : Oper} (h : ops[i]? = some o) : (osOf P pr ops)[i]? = some (trOper P pr ops (fzn ops i) (mayWrite P pr ops (Region.before ops) i) o) := by
  simp [osOf, List.getElem?_zipIdx, h]
theorem os_len : (osOf P pr ops).length = ops.size := by simp [osOf]

theorem T_len (tr : Tr G S (osOf P pr ops) ts H r K T v) : ∀ i, i ≤ ops.size → (T i).length = ts.length
  | 0, _ => by rw [tr.t0]
  | i + 1, h => by
    obtain ⟨o, ho⟩ : ∃ o, ops[i]? = some o := ⟨_, Array.getElem?_eq_getElem (by omega)⟩
    rw [(tr.step i _ (os_get ho)).1, ← T_len tr i (by omega)]
    unfold putT; split <;> simp
theorem T_old (tr : Tr G S (osOf P pr ops) ts H r K T v) {d : Tmp} : ∀ i, i ≤ ops.size → (∀ j, j < i → dst ops j ≠ some d) → (T i).getD d undefV = ts.getD d undefV
  | 0, _, _ => by rw [tr.t0]
  | i + 1, h, hn => by
    obtain ⟨o, ho⟩ : ∃ o, ops[i]? = some o := ⟨_, Array.getElem?_eq_getElem (by omega)⟩
    rw [(tr.step i _ (os_get ho)).1, ← T_old tr i (by omega) (fun j hj => hn j (by omega))]
    have hd := hn i (by omega)
    unfold dst at hd
    rw [ho] at hd
    simp only [Option.bind_some] at hd
    show (putT (T i) o.dst (v i)).getD d undefV = _
    unfold putT
    split
    · rename_i d' hd'
      rw [getD_lset, if_neg]
      rintro ⟨rfl, _⟩
      exact hd hd'
    · rfl
theorem T_new (tr : Tr G S (osOf P pr ops) ts H r K T v) (hnd : noDup ops = true) {d : Tmp} {j : Nat} (hj : dst ops j = some d) (hd : d < ts.length) : ∀ i, i ≤ ops.size → j < i → (T i).getD d undefV = v j
  | 0, _, h => by omega
  | i + 1, h, hlt => by
    obtain ⟨o, ho⟩ : ∃ o, ops[i]? = some o := ⟨_, Array.getElem?_eq_getElem (by omega)⟩
    rw [(tr.step i _ (os_get ho)).1]
    show (putT (T i) o.dst (v i)).getD d undefV = _
    by_cases he : j = i
    · subst he
      have hd' : o.dst = some d := by unfold dst at hj; rw [ho] at hj; exact hj
      rw [hd']
      simp only [putT]
      rw [getD_lset, if_pos ⟨rfl, by rw [T_len tr j (by omega)]; exact hd⟩]
    · rw [← T_new tr hnd hj hd i (by omega) (by omega)]
      unfold putT
      split
      · rename_i d' hd'
        rw [getD_lset, if_neg]
        rintro ⟨rfl, _⟩
        exact he (noDup_spec hnd hj (by unfold dst; rw [ho]; exact hd'))
      · rfl

theorem K_quiet (hS : CallOK P G S) (tr : Tr G S (osOf P pr ops) ts H r K T v) {i : Nat} (hi : i < ops.size) (hh : ¬ hard P pr ops i) : K (i + 1) = K i ∨ ∃ b, K (i + 1) = K i ++ [b] := by
  obtain ⟨o, ho⟩ : ∃ o, ops[i]? = some o := ⟨_, Array.getElem?_eq_getElem hi⟩
  rcases (tr.step i _ (os_get ho)).2 with ⟨_, h⟩ | ⟨_, _, h⟩
  · by_cases hst : still (trA P pr (fzn ops i) o) = true
    · exact .inl (still_heap hst h)
    · have hw : mayWrite P pr ops (Region.before ops) i = false := by
        cases hm : mayWrite P pr ops (Region.before ops) i with
        | false => rfl
        | true => exact absurd ⟨⟨o, ho, by simpa using hst⟩, hm⟩ hh
      simp only [trOper, hw] at h
      obtain ⟨_, ht, ha⟩ := trA_some h
      exact (quiet_alt hS ht ha h (quiet_of_false h)).1
  · exact .inl h

theorem K_grow (hS : CallOK P G S) (tr : Tr G S (osOf P pr ops) ts H r K T v) {i : Nat} : ∀ m, i ≤ m → m ≤ ops.size → (∀ j, i ≤ j → j < m → ¬ hard P pr ops j) → ∃ N, K m = K i ++ N
  | 0, h, _, _ => by obtain rfl : i = 0 := by omega
                     exact ⟨[], by simp⟩
  | m + 1, h, hm, hn => by
    by_cases he : i = m + 1
    · subst he; exact ⟨[], by simp⟩
    · obtain ⟨N, hN⟩ := K_grow hS tr m (by omega) (by omega) (fun j h1 h2 => hn j h1 (by omega))
      rcases K_quiet hS tr (by omega) (hn m (by omega) (by omega)) with h | ⟨b, h⟩
      · exact ⟨N, by rw [h, hN]⟩
      · exact ⟨N ++ [b], by rw [h, hN]; simp⟩

theorem next_hard (P : Program) (pr : List Nat) (ops : Array Oper) : ∀ (n k : Nat), k + n = ops.size → ∃ m, k ≤ m ∧ m ≤ ops.size ∧ (m = ops.size ∨ hard P pr ops m) ∧ ∀ j, k ≤ j → j < m → ¬ hard P pr ops j
  | 0, k, h => ⟨k, Nat.le_refl _, by omega, .inl (by omega), fun j h1 h2 => by omega⟩
  | n + 1, k, h => by
    by_cases hh : hard P pr ops k
    · exact ⟨k, Nat.le_refl _, by omega, .inr hh, fun j h1 h2 => by omega⟩
    · obtain ⟨m, h1, h2, h3, h4⟩ := next_hard P pr ops n (k + 1) (by omega)
      refine ⟨m, by omega, h2, h3, fun j q1 q2 => ?_⟩
      by_cases he : j = k
      · rw [he]; exact hh
      · exact h4 j (by omega) q2

structure Inv (P : Program) (pr : List Nat) (ops : Array Oper) (ts : List V) (K : Nat → Heap) (v : Nat → V) (φ0 : Phi) (H : Heap) (A0 : Nat → Prop) (w0 : World) (listed : Array Bool) (a : Act) (w : World) (κ : Nat) (φ : Phi) (A : Nat → Prop) : Prop where
  size : listed.size = ops.size
  closed : ∀ i j, Don listed i → Bit ops i j → Don listed j
  le : κ ≤ ops.size
  top : κ = ops.size ∨ (hard P pr ops κ ∧ ¬ Don listed κ)
  low : ∀ j, j < κ → hard P pr ops j → Don listed j
  led : Led φ0 H A0 w0 φ (K κ) A w
  free : ∀ j, j < κ → ¬ Don listed j → loud P pr ops j → ∀ x, (K j).length ≤ x → x < (K (j + 1)).length → φ x = none
  defers : a.defers = []
  tsize : a.tmps.size = ts.length
  s1 : ∀ j d, Don listed j → dst ops j = some d → d < ts.length → VR φ (K κ) A w (v j) (a.tmps.getD d undef)
  s2 : ∀ d, (∀ j, Don listed j → dst ops j ≠ some d) → VR φ (K κ) A w (ts.getD d undefV) (a.tmps.getD d undef)

theorem don_set {listed : Array Bool} {i j : Nat} (hi : i < listed.size) : Don (listed.setIfInBounds i true) j ↔ j = i ∨ Don listed j := by
  unfold Don
  simp only [Array.getD_eq_getD_getElem?, Array.getElem?_setIfInBounds]
  by_cases h : i = j
  · subst h; simp [hi]
  · rw [if_neg h]; exact ⟨.inr, fun h' => h'.resolve_left (fun e => h e.symm)⟩

variable {φ0 : Phi} {A0 : Nat → Prop} {w0 : World} {listed : Array Bool} {a : Act} {w : World} {κ : Nat} {φ : Phi} {A : Nat → Prop}

theorem Inv.slot (I : Inv P pr ops ts K v φ0 H A0 w0 listed a w κ φ A) (tr : Tr G S (osOf P pr ops) ts H r K T v) (hok : openOk ops (Region.before ops) = true) {i : Nat} {o : Oper} (ho : ops[i]? = some o) (hni : ¬ Don listed i) (hbits : ∀ j, Bit ops i j → Don listed j) {t : Tmp} (ht : t ∈ o.looksAt ops) :
    VR φ (K κ) A w ((T i).getD t undefV) (a.tmps.getD t undef) := by
  have hnd : noDup ops = true := by unfold openOk at hok; simp only [Bool.and_eq_true] at hok; exact hok.1.2
  have hi : i < ops.size := (Array.getElem?_eq_some_iff.1 ho).1
  by_cases hlen : t < ts.length
  case neg =>
    have h1 : (T i).getD t undefV = undefV := by rw [List.getD_eq_getElem?_getD, List.getElem?_eq_none (by rw [T_len tr i (by omega)]; exact Nat.le_of_not_lt hlen)]; rfl
    have h2 : a.tmps.getD t undef = undef := by rw [Array.getD_eq_getD_getElem?, Array.getElem?_eq_none (by rw [I.tsize]; exact Nat.le_of_not_lt hlen)]; rfl
    rw [h1, h2]; exact .undef
  by_cases hw : ∃ j, dst ops j = some t
  case neg =>
    rw [T_old tr i (by omega) (fun j _ h => hw ⟨j, h⟩)]
    exact I.s2 t (fun j _ h => hw ⟨j, h⟩)
  obtain ⟨j, hj⟩ := hw
  have old : ¬ Don listed j → ¬ j < i → VR φ (K κ) A w ((T i).getD t undefV) (a.tmps.getD t undef) := fun h1 h2 => by
    rw [T_old tr i (by omega) (fun j' hj' h => by have := noDup_spec hnd hj h; omega)]
    exact I.s2 t (fun j' hj' h => by rw [noDup_spec hnd hj h] at h1; exact h1 hj')
  by_cases he : i = j
  · subst he; exact old hni (by omega)
  · rcases reads_spec hok ho hj ht he with ⟨h1, h2⟩ | ⟨h1, h2⟩
    · rw [T_new tr hnd hj hlen i (by omega) h1]
      exact I.s1 j t (hbits j h2) hj hlen
    · exact old (fun hd => hni (I.closed j i hd h2)) (by omega)

theorem Inv.next (I : Inv P pr ops ts K v φ0 H A0 w0 listed a w κ φ A) (hnd : noDup ops = true) {i : Nat} {o : Oper} (ho : ops[i]? = some o) (hni : ¬ Don listed i) (hbits : ∀ j, Bit ops i j → Don listed j)
    {κ' : Nat} {φ' : Phi} {A' : Nat → Prop} {w' : World} {u : Value} (l : Led φ (K κ) A w φ' (K κ') A' w') (hv : VR φ' (K κ') A' w' (v i) u) (hle : κ' ≤ ops.size) (htop : κ' = ops.size ∨ (hard P pr ops κ' ∧ ¬ Don listed κ' ∧ κ' ≠ i))
    (hlow : ∀ j, j < κ' → hard P pr ops j → j = i ∨ Don listed j) (hfree : ∀ j, j < κ' → ¬ Don listed j → j ≠ i → loud P pr ops j → ∀ x, (K j).length ≤ x → x < (K (j + 1)).length → φ' x = none) :
    Inv P pr ops ts K v φ0 H A0 w0 (listed.setIfInBounds i true) (a.put o.dst u) w' κ' φ' A' := by
  have hi : i < listed.size := by rw [I.size]; exact (Array.getElem?_eq_some_iff.1 ho).1
  have hd : dst ops i = o.dst := by unfold dst; rw [ho]; rfl
  have g := I.led.good
  have hkeep : ∀ d, dst ops i ≠ some d → (a.put o.dst u).tmps.getD d undef = a.tmps.getD d undef := fun d hne => by
    rw [hd] at hne
    cases hod : o.dst with
    | none => rfl
    | some d' =>
      show (a.tmps.setIfInBounds d' u).getD d undef = _
      rw [getD_set, if_neg]
      rintro ⟨rfl, _⟩
      exact hne hod
  refine ⟨by simp [I.size], fun j k hj hb => ?_, hle, ?_, fun j hj hh => (don_set hi).2 (hlow j hj hh), I.led.trans l, fun j hj hn hl => ?_, (put_defers a o.dst u).trans I.defers, ?_, fun j d hj hjd hlt => ?_, fun d hn => ?_⟩
  · rcases (don_set hi).1 hj with rfl | hj
    · exact (don_set hi).2 (.inr (hbits k hb))
    · exact (don_set hi).2 (.inr (I.closed j k hj hb))
  · rcases htop with h | ⟨h1, h2, h3⟩
    · exact .inl h
    · exact .inr ⟨h1, fun h => ((don_set hi).1 h).elim h3 h2⟩
  · have hn' : ¬ (j = i ∨ Don listed j) := fun h => hn ((don_set hi).2 h)
    exact hfree j hj (fun h => hn' (.inr h)) (fun h => hn' (.inl h)) hl
  · cases hod : o.dst with
    | none => exact I.tsize
    | some d => show (a.tmps.setIfInBounds d u).size = _; simp [I.tsize]
  · by_cases he : j = i
    · subst he
      rw [hd] at hjd
      rw [hjd]
      show VR _ _ _ _ _ ((a.tmps.setIfInBounds d u).getD d undef)
      rw [getD_set, if_pos ⟨rfl, by rw [I.tsize]; exact hlt⟩]
      exact hv
    · rw [hkeep d (fun h => he (noDup_spec hnd hjd h))]
      exact l.vr g (I.s1 j d (((don_set hi).1 hj).resolve_left he) hjd hlt)
  · rw [hkeep d (hn i ((don_set hi).2 (.inl rfl)))]
    exact l.vr g (I.s2 d (fun j hj => hn j ((don_set hi).2 (.inr hj))))
end
end
end Go.Eng
