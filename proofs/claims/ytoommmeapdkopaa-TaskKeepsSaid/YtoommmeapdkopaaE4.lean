/-
  ENGINE, part 4: operations that do not touch memory.
-/
import Derived.Test.YtoommmeapdkopaaE3
import Derived.Laws.StructEq
import Derived.ChangeKeysEq
namespace Go.Eng

section
variable {P : Program} {φ : Phi} {H : Heap} {A : Nat → Prop} {w : World}

theorem run_sizeT {t : TypeId} {k : Nat} (h : sizeT P t = some k) (w : World) : (sizeOf t).run P w = .ok k w := by
  unfold sizeT at h
  cases hi : P.info? t with
  | none => simp [hi] at h
  | some i => simp [hi] at h; subst h; simp [sizeOf, typeInfo, hi]
theorem absC_sound : ∀ (d : Nat) (u : Value) (v : V), absC d u = some v → RR A w v u
  | 0, _, _, h => by cases h
  | d + 1, u, v, h => by
    have hl : ∀ (us : List Value) (l : List V), mapO (absC d) us = some l → l.length = us.length ∧ ∀ i (hi : i < l.length), RR A w l[i] (us.getD i undef) := by
      intro us
      induction us with
      | nil => intro l hl; simp only [mapO] at hl; cases hl; exact ⟨rfl, fun i hi => absurd hi (by simp)⟩
      | cons x r ih =>
        intro l hl
        simp only [mapO, Option.bind_eq_some_iff, Option.map_eq_some_iff] at hl
        obtain ⟨y, hy, ys, hys, rfl⟩ := hl
        obtain ⟨h1, h2⟩ := ih ys hys
        refine ⟨by simp [h1], fun i hi => ?_⟩
        cases i with
        | zero => exact absC_sound d x y hy
        | succ i => exact h2 i (Nat.lt_of_succ_lt_succ hi)
    have hg : ∀ (cs : Array Value) (i : Nat), cs.toList.getD i undef = cs.getD i undef := fun cs i => by
      by_cases h : i < cs.size <;> simp [List.getD, Array.getD, h]
    have ho : ∀ (x : V) (y : Value), RR A w x y → oneC x = true → y.oneCell' = true := fun x y h hx => (VR.rr (φ := fun _ => none) (H := []) h).one hx
    unfold absC at h
    split at h <;> (try simp only [Option.some.injEq, Option.map_eq_some_iff, Option.bind_eq_some_iff] at h) <;> first
      | (subst h; first | exact .bool _ | exact .int _ _ | exact .nilp | exact .nils | exact .nilf | exact .nili | exact .nilm)
      | skip
    · subst h; exact .str _
    · obtain ⟨l, hl', h⟩ := h
      split at h
      · rename_i hall
        cases h
        obtain ⟨h1, h2⟩ := hl _ _ hl'
        rw [List.all_eq_true] at hall
        exact .agg (by simpa using h1.symm) (fun i hi => by rw [← hg]; exact ho _ _ (h2 i hi) (hall _ (List.getElem_mem hi))) (fun i hi => by rw [← hg]; exact h2 i hi)
      · cases h
    · obtain ⟨l, hl', rfl⟩ := h
      obtain ⟨h1, h2⟩ := hl _ _ hl'
      exact .tup (by simpa using h1.symm) (fun i hi => by rw [← hg]; exact h2 i hi)
    · cases h

def TR (φ : Phi) (H : Heap) (A : Nat → Prop) (w : World) (ts : List V) (us : Array Value) : Prop :=
  us.size = ts.length ∧ ∀ i, VR φ H A w (ts.getD i undefV) (us.getD i undef)

def OR (φ : Phi) (H : Heap) (A : Nat → Prop) (w : World) (ts : List V) (ρ : Operand → Value) (x : Operand) : Prop :=
  ∀ o, opd x = some o → VR φ H A w (look ts o) (ρ x)

theorem OR.of_slot {ts : List V} {a : Act} {x : Operand} (h : ∀ t, x = .tmp t → VR φ H A w (ts.getD t undefV) (a.tmps.getD t undef)) : OR φ H A w ts a.eval x := by
  intro o ho
  cases x with
  | tmp t => cases ho; exact h t rfl
  | const v =>
    simp only [opd, Option.map_eq_some_iff] at ho
    obtain ⟨v', hv, rfl⟩ := ho
    exact .rr (absC_sound _ _ _ hv)
  | func f => cases ho; exact .rr (.fn rfl (fun i hi => absurd hi (by simp)))
  | global g => cases ho

def Gives (P : Program) (φ : Phi) (H : Heap) (A : Nat → Prop) (w : World) (s : Sem Value) (v : V) : Prop :=
  ∃ u, s.run P w = .ok u w ∧ VR φ H A w v u

theorem ret1_eq {H0 : Heap} {x : Option V} {v : V} {H1 : Heap} (h : ret1 H0 x = some (v, H1)) : x = some v ∧ H1 = H0 := by
  simp only [ret1, Option.map_eq_some_iff, Prod.mk.injEq] at h
  obtain ⟨y, hy, rfl, rfl⟩ := h
  exact ⟨hy, rfl⟩

theorem bitsV_run (k : IntKind) (op : BinOp) (x y : Int) (h : op = .and ∨ op = .or ∨ op = .xor ∨ op = .andNot) : (Op.intBits op k x y).run P w = .ok (.int k (bitsV k op x y)) w := by
  rcases h with rfl | rfl | rfl | rfl <;> rfl

theorem bytes_eq (s : ByteArray) : s.toList = s.data.toList := ByteArray.toList_eq s

theorem i64_max : IntKind.i64.max = 9223372036854775807 := by decide

theorem gives_bin {op : BinOp} {t : TypeId} {x y : Operand} {a b v : V} {u1 u2 : Value} (h1 : VR φ H A w a u1) (h2 : VR φ H A w b u2) (h : binV op a b = some v) :
    Gives P φ H A w (do eqGuard op t x y u1 u2; binOp op t u1 u2) v := by
  unfold binV at h
  split at h
  · rename_i k a k' b
    cases h1.int'; cases h2.int'
    suffices hs : ∃ u, (binOp op t (.int k a) (.int k' b)).run P w = .ok u w ∧ VR φ H A w v u by
      obtain ⟨u, hu, hv⟩ := hs
      exact ⟨u, by simp [eqGuard_at_int, hu], hv⟩
    cases op <;> first
      | (simp only at h; split at h; · cases h
         rename_i hb; cases h; exact ⟨_, by simp [binOp, Op.shift, hb], .rr (.int _ _)⟩)
      | (simp only at h
         by_cases hk : k = k'
         case neg => rw [if_neg hk] at h; cases h
         subst hk
         rw [if_pos rfl] at h
         first
           | (split at h; · cases h
              rename_i hb; cases h; exact ⟨_, by simp [binOp, Op.intDiv, hb], .rr (.int _ _)⟩)
           | (cases h; refine ⟨_, ?_, .rr (.int _ _)⟩; simp [binOp, Op.intArith]; done)
           | (cases h; refine ⟨_, ?_, .rr (.bool _)⟩; simp [binOp, Op.intCmp]; done)
           | (cases h; refine ⟨_, ?_, .rr (.int _ _)⟩; simp only [binOp]; rw [if_neg (by simp)]; exact bitsV_run _ _ _ _ (by simp)))
  · rename_i a b
    obtain ⟨s, rfl, rfl⟩ := h1.str'
    obtain ⟨t', rfl, rfl⟩ := h2.str'
    suffices hs : ∃ u, (binOp op t (.string s) (.string t')).run P w = .ok u w ∧ VR φ H A w v u by
      obtain ⟨u, hu, hv⟩ := hs
      exact ⟨u, by simp [eqGuard_at_string, hu], hv⟩
    cases op <;> simp only at h <;> try (cases h; done)
    case add =>
      split at h
      · rename_i hr
        cases h
        refine ⟨.string (s ++ t'), ?_, .rr ?_⟩
        · simp only [binOp, Op.stringOp]
          rw [if_neg]
          · rfl
          · unfold room at hr
            have e : ∀ u : ByteArray, u.size = u.data.toList.length := fun u => by rw [Array.length_toList]; rfl
            rw [e, e, i64_max]
            omega
        · have := RR.str (A := A) (w := w) (s ++ t')
          simpa [ByteArray.data_append] using this
      · cases h
    all_goals
      cases h
      exact ⟨_, by simp only [binOp, Op.stringOp, bytes_eq]; first | rfl | simp, .rr (.bool _)⟩
  · cases h

theorem gives_un {op : UnOp} {a v : V} {u : Value} (h1 : VR φ H A w a u) (h : unV op a = some v) : Gives P φ H A w (Op.unary op u) v := by
  cases op <;> cases a <;> simp only [unV] at h <;> try (cases h; done)
  · obtain rfl := h1.int'; cases h; exact ⟨_, rfl, .rr (.int _ _)⟩
  · rename_i k _; obtain rfl := h1.int'; cases h; exact ⟨_, bitsV_run k .xor _ _ (.inr (.inr (.inl rfl))), .rr (.int _ _)⟩
  · obtain rfl := h1.bool'; cases h; exact ⟨_, rfl, .rr (.bool _)⟩

theorem flat1_b {t : TypeId} (h : flat1 P t = some .b) : P.underlying t = some .bool := by
  unfold flat1 at h; split at h <;> first | assumption | cases h
theorem flat1_i {t : TypeId} (h : flat1 P t = some .i) : ∃ k, P.underlying t = some (.int k) := by
  unfold flat1 at h; split at h <;> first | exact ⟨_, by assumption⟩ | cases h
theorem flat1_s {t : TypeId} (h : flat1 P t = some .s) : P.underlying t = some .string := by
  unfold flat1 at h; split at h <;> first | assumption | cases h

theorem eq1_sound {fk : FK} {x y : V} {u1 u2 : Value} {b : Bool} {t : TypeId} (hd : flat1 P t = some fk) (h1 : VR φ H A w x u1) (h2 : VR φ H A w y u2) (h : eq1 fk x y = some b) (d : Nat) :
    (Op.equalIn (d + 1) t u1 u2).run P w = .ok b w := by
  cases fk <;> cases x <;> cases y <;> simp only [eq1] at h <;> try (cases h; done)
  · obtain rfl := h1.bool'; obtain rfl := h2.bool'; cases h; exact run_equalIn_bool' w d t _ _ (flat1_b hd)
  · obtain rfl := h1.int'; obtain rfl := h2.int'
    obtain ⟨k, hk⟩ := flat1_i hd
    split at h
    · rename_i hkk; subst hkk; cases h; exact run_equalIn_int w d t _ _ _ _ hk
    · cases h
  · obtain ⟨s, rfl, rfl⟩ := h1.str'; obtain ⟨s', rfl, rfl⟩ := h2.str'; cases h
    rw [run_equalIn_string w d t _ _ (flat1_s hd), bytes_eq, bytes_eq]

theorem run_isAgg_false {t : TypeId} {d : TypeDesc} (h : P.underlying t = some d) (ha : aggT P t = false) (w : World) : (isAgg t).run P w = .ok false w := by
  unfold aggT at ha
  rw [h] at ha
  unfold isAgg
  simp only [Sem.run_bind, run_underlying h, Result.andThen_ok]
  cases d <;> first | rfl | (simp at ha; done)
theorem run_isAgg_true {t : TypeId} (ha : aggT P t = true) (w : World) : (isAgg t).run P w = .ok true w := by
  unfold aggT at ha
  unfold isAgg
  cases h : P.underlying t with
  | none => simp [h] at ha
  | some d =>
    simp only [Sem.run_bind, run_underlying h, Result.andThen_ok]
    rw [h] at ha
    cases d <;> first | rfl | (simp at ha; done)
theorem flat1_under {t : TypeId} {fk : FK} (h : flat1 P t = some fk) : ∃ d, P.underlying t = some d := by
  cases fk
  · exact ⟨_, flat1_b h⟩
  · obtain ⟨k, hk⟩ := flat1_i h; exact ⟨_, hk⟩
  · exact ⟨_, flat1_s h⟩

theorem run_part_one {t : TypeId} {fk : FK} (hf : flat1 P t = some fk) (ha : aggT P t = false) {xs : Array Value} {off : Nat} (ho : off < xs.size) (w : World) : (part t xs off).run P w = .ok (xs.getD off undef) w := by
  obtain ⟨d, hd⟩ := flat1_under hf
  unfold part
  simp only [Sem.run_bind, run_isAgg_false hd ha, Result.andThen_ok, Bool.false_eq_true, if_false]
  rw [Array.getElem?_eq_getElem ho]
  simp [Array.getD, ho]

theorem eqFields_sound (d : Nat) {xs ys : Array Value} : ∀ (fs : List Field) (i : Nat) (ks : List FK) (cs1 cs2 : List V) (b : Bool), flatFields P i fs = some ks → eqs ks cs1 cs2 = some b →
    (∀ j (h : j < cs1.length), i + j < xs.size ∧ VR φ H A w cs1[j] (xs.getD (i + j) undef)) → (∀ j (h : j < cs2.length), i + j < ys.size ∧ VR φ H A w cs2[j] (ys.getD (i + j) undef)) →
    (Op.eqFields (d + 1) xs ys fs).run P w = .ok b w
  | [], i, ks, cs1, cs2, b, hf, h, h1, h2 => by
    simp only [flatFields, Option.some.injEq] at hf; subst hf
    cases cs1 <;> cases cs2 <;> simp only [eqs] at h <;> first | (cases h; done) | (cases h; simp [Op.eqFields])
  | f :: fs, i, ks, cs1, cs2, b, hf, h, h1, h2 => by
    simp only [flatFields] at hf
    split at hf
    case isFalse => cases hf
    rename_i hc
    simp only [Option.bind_eq_some_iff, Option.map_eq_some_iff] at hf
    obtain ⟨k, hk, ks', hks, rfl⟩ := hf
    simp only [Bool.and_eq_true, beq_iff_eq, bne_iff_ne, ne_eq, Bool.not_eq_true'] at hc
    obtain ⟨⟨ho, hn⟩, ha⟩ := hc
    cases cs1 with
    | nil => simp [eqs] at h
    | cons c1 cs1 =>
      cases cs2 with
      | nil => simp [eqs] at h
      | cons c2 cs2 =>
        simp only [eqs, Option.bind_eq_some_iff, Option.map_eq_some_iff] at h
        obtain ⟨a, hae, b', hb', rfl⟩ := h
        have p1 := h1 0 (by simp)
        have p2 := h2 0 (by simp)
        simp only [Nat.add_zero, List.getElem_cons_zero] at p1 p2
        have ih := eqFields_sound d fs (i + 1) ks' cs1 cs2 b' hks hb' (fun j hj => by have := h1 (j + 1) (by simpa using hj); rw [show i + 1 + j = i + (j + 1) by omega]; exact this) (fun j hj => by have := h2 (j + 1) (by simpa using hj); rw [show i + 1 + j = i + (j + 1) by omega]; exact this)
        simp only [Op.eqFields, ne_eq, hn, not_false_eq_true, if_true, Sem.run_bind, ho, run_part_one hk ha p1.1, run_part_one hk ha p2.1, Result.andThen_ok, eq1_sound hk p1.2 p2.2 hae d]
        cases a
        · simp
        · simpa using ih

theorem eqItems_sound (d : Nat) {e : TypeId} {fk : FK} (hk : flat1 P e = some fk) (ha : aggT P e = false) {xs ys : Array Value} : ∀ (n i : Nat) (cs1 cs2 : List V) (b : Bool), eqs (List.replicate n fk) cs1 cs2 = some b →
    (∀ j (h : j < cs1.length), i + j < xs.size ∧ VR φ H A w cs1[j] (xs.getD (i + j) undef)) → (∀ j (h : j < cs2.length), i + j < ys.size ∧ VR φ H A w cs2[j] (ys.getD (i + j) undef)) →
    (Op.eqItems (d + 1) e 1 xs ys (List.range' i n)).run P w = .ok b w
  | 0, i, cs1, cs2, b, h, h1, h2 => by
    cases cs1 <;> cases cs2 <;> simp only [List.replicate_zero, eqs] at h <;> first | (cases h; done) | (cases h; simp [Op.eqItems])
  | n + 1, i, cs1, cs2, b, h, h1, h2 => by
    rw [List.replicate_succ] at h
    cases cs1 with
    | nil => simp [eqs] at h
    | cons c1 cs1 =>
      cases cs2 with
      | nil => simp [eqs] at h
      | cons c2 cs2 =>
        simp only [eqs, Option.bind_eq_some_iff, Option.map_eq_some_iff] at h
        obtain ⟨a, hae, b', hb', rfl⟩ := h
        have p1 := h1 0 (by simp)
        have p2 := h2 0 (by simp)
        simp only [Nat.add_zero, List.getElem_cons_zero] at p1 p2
        have ih := eqItems_sound d hk ha n (i + 1) cs1 cs2 b' hb' (fun j hj => by have := h1 (j + 1) (by simpa using hj); rw [show i + 1 + j = i + (j + 1) by omega]; exact this) (fun j hj => by have := h2 (j + 1) (by simpa using hj); rw [show i + 1 + j = i + (j + 1) by omega]; exact this)
        simp only [List.range'_succ, Op.eqItems, Sem.run_bind, Nat.mul_one, run_part_one hk ha p1.1, run_part_one hk ha p2.1, Result.andThen_ok, eq1_sound hk p1.2 p2.2 hae d]
        cases a
        · simp
        · simpa using ih

theorem gives_eq {cls : EqC} {neg : Bool} {t : TypeId} {x y : Operand} {a b : V} {u1 u2 : Value} {r : Bool} {op : BinOp} (hop : op = if neg then .neq else .eql) (hc : eqC P t = some cls) (h1 : VR φ H A w a u1) (h2 : VR φ H A w b u2) (h : eqV cls a b = some r) :
    Gives P φ H A w (do eqGuard op t x y u1 u2; binOp op t u1 u2) (.bool (if neg then !r else r)) := by
  suffices hs : (eqGuard op t x y u1 u2).run P w = .ok () w ∧ (binOp .eql t u1 u2 = (do pure (.bool (← Op.equal t u1 u2))) ∧ binOp .neq t u1 u2 = (do pure (.bool (!(← Op.equal t u1 u2))))) ∧ (Op.equal t u1 u2).run P w = .ok r w by
    obtain ⟨hg, ⟨hb1, hb2⟩, he⟩ := hs
    refine ⟨_, ?_, .rr (.bool _)⟩
    subst hop
    cases neg
    · simp only [Bool.false_eq_true, if_false] at hg ⊢
      simp [hg, hb1, he]
    · simp only [if_true] at hg ⊢
      simp [hg, hb2, he]
  have heq : ∀ (z : Bool), (∀ d, (Op.equalIn (d + 1) t u1 u2).run P w = .ok z w) → (Op.equal t u1 u2).run P w = .ok z w := fun z h => h 9999
  unfold eqC at hc
  cases hu : P.underlying t with
  | none => simp [hu] at hc
  | some d =>
    rw [hu] at hc
    cases cls with
    | bool =>
      have hd : d = .bool := by cases d <;> simp at hc <;> first | rfl | (obtain ⟨_, hc⟩ := hc; simp at hc)
      subst hd
      cases a <;> cases b <;> simp only [eqV] at h <;> try (cases h; done)
      cases h
      obtain rfl := h1.bool'; obtain rfl := h2.bool'
      exact ⟨by rw [eqGuard_at_bool]; rfl, ⟨rfl, rfl⟩, heq _ fun d => run_equalIn_bool' w d t _ _ hu⟩
    | slice =>
      obtain ⟨e, rfl⟩ : ∃ e, d = .slice e := by cases d <;> simp at hc <;> first | exact ⟨_, rfl⟩ | (obtain ⟨_, hc⟩ := hc; simp at hc)
      have hs : isSlice a = true ∧ isSlice b = true := by cases a <;> cases b <;> simp only [eqV] at h <;> first | (cases h; done) | exact ⟨rfl, rfl⟩
      obtain ⟨a1, n1, c1, rfl, _, p1, q1⟩ := h1.slice' hs.1
      obtain ⟨a2, n2, c2, rfl, _, p2, q2⟩ := h2.slice' hs.2
      refine ⟨by rw [eqGuard_at_slice]; rfl, ⟨rfl, rfl⟩, heq _ fun d => ?_⟩
      simp only [Op.equalIn, Sem.run_bind, run_underlying hu, Result.andThen_ok]
      cases a <;> cases b <;> simp only [eqV] at h <;> first
        | (cases h; done)
        | (cases h; obtain rfl := p1 rfl; obtain rfl := p2 rfl; rfl)
        | (cases h; obtain rfl := p1 rfl; obtain ⟨_, rfl⟩ := q2 (by simp); rfl)
        | (cases h; obtain rfl := p2 rfl; obtain ⟨_, rfl⟩ := q1 (by simp); rfl)
    | func =>
      obtain ⟨p, q, z, rfl⟩ : ∃ p q z, d = .func p q z := by cases d <;> simp at hc <;> first | exact ⟨_, _, _, rfl⟩ | (obtain ⟨_, hc⟩ := hc; simp at hc)
      cases a <;> cases b <;> simp only [eqV] at h <;> first
        | (cases h; done)
        | (cases h; obtain ⟨_, rfl, _, _⟩ := h1.fn'; obtain rfl := h2.nilf'
           exact ⟨by rw [eqGuard_at_func]; rfl, ⟨rfl, rfl⟩, heq _ fun d => by simp [Op.equalIn, run_underlying hu]⟩)
        | (cases h; obtain rfl := h1.nilf'; obtain ⟨_, rfl, _, _⟩ := h2.fn'
           exact ⟨by rw [eqGuard_at_nilFunc]; rfl, ⟨rfl, rfl⟩, heq _ fun d => by simp [Op.equalIn, run_underlying hu]⟩)
        | (cases h; obtain rfl := h1.nilf'; obtain rfl := h2.nilf'
           exact ⟨by rw [eqGuard_at_nilFunc]; rfl, ⟨rfl, rfl⟩, heq _ fun d => by simp [Op.equalIn, run_underlying hu]⟩)
    | ptr =>
      obtain ⟨e, rfl⟩ : ∃ e, d = .pointer e := by cases d <;> simp at hc <;> first | exact ⟨_, rfl⟩ | (obtain ⟨_, hc⟩ := hc; simp at hc)
      have hs : ∀ (v : V) (u : Value), VR φ H A w v u → ((∃ i o, v = .ptr i o) ∨ (∃ l, v = .rptr l)) → ∃ z, u = .pointer (some z) := by
        rintro v u hv (⟨i, o, rfl⟩ | ⟨l, rfl⟩)
        · cases hv with
          | rr hh => cases hh
          | ptr => exact ⟨_, rfl⟩
          | pdead => exact ⟨_, rfl⟩
        · cases hv with | rr hh => cases hh; exact ⟨_, rfl⟩
      have hl : ∀ (z : Addr) (d : Nat), (Op.equalIn (d + 1) t (.pointer none) (.pointer (some z))).run P w = .ok false w := fun z d => by simp [Op.equalIn, run_underlying hu]
      have hr : ∀ (z : Addr) (d : Nat), (Op.equalIn (d + 1) t (.pointer (some z)) (.pointer none)).run P w = .ok false w := fun z d => by simp [Op.equalIn, run_underlying hu]
      cases a <;> cases b <;> simp only [eqV] at h <;> first
        | (cases h; done)
        | (cases h; obtain rfl := h1.nilp'; obtain rfl := h2.nilp'
           exact ⟨by rw [eqGuard_at_pointer]; rfl, ⟨rfl, rfl⟩, heq _ fun d => by simp [Op.equalIn, run_underlying hu]⟩)
        | (cases h; obtain rfl := h1.nilp'; obtain ⟨z, rfl⟩ := hs _ _ h2 (by first | exact .inl ⟨_, _, rfl⟩ | exact .inr ⟨_, rfl⟩)
           exact ⟨by rw [eqGuard_at_pointer]; rfl, ⟨rfl, rfl⟩, heq _ (hl z)⟩)
        | (cases h; obtain rfl := h2.nilp'; obtain ⟨z, rfl⟩ := hs _ _ h1 (by first | exact .inl ⟨_, _, rfl⟩ | exact .inr ⟨_, rfl⟩)
           exact ⟨by rw [eqGuard_at_pointer]; rfl, ⟨rfl, rfl⟩, heq _ (hr z)⟩)
    | map =>
      obtain ⟨k, e, rfl⟩ : ∃ k e, d = .map k e := by cases d <;> simp at hc <;> first | exact ⟨_, _, rfl⟩ | (obtain ⟨_, hc⟩ := hc; simp at hc)
      have hs : ∀ (i : Nat) (u : Value), VR φ H A w (.map i) u → ∃ z, u = .map (some z) := by
        intro i u hv
        cases hv with
        | rr hh => cases hh
        | map => exact ⟨_, rfl⟩
        | mdead => exact ⟨_, rfl⟩
      cases a <;> cases b <;> simp only [eqV] at h <;> first
        | (cases h; done)
        | (cases h; obtain rfl := h1.nilm'; obtain rfl := h2.nilm'
           exact ⟨by rw [eqGuard_at_map]; rfl, ⟨rfl, rfl⟩, heq _ fun d => by simp [Op.equalIn, run_underlying hu]⟩)
        | (cases h; obtain rfl := h1.nilm'; obtain ⟨z, rfl⟩ := hs _ _ h2
           exact ⟨by rw [eqGuard_at_map]; rfl, ⟨rfl, rfl⟩, heq _ fun d => by simp [Op.equalIn, run_underlying hu]⟩)
        | (cases h; obtain rfl := h2.nilm'; obtain ⟨z, rfl⟩ := hs _ _ h1
           exact ⟨by rw [eqGuard_at_map]; rfl, ⟨rfl, rfl⟩, heq _ fun d => by simp [Op.equalIn, run_underlying hu]⟩)
    | flat ks =>
      cases a <;> cases b <;> simp only [eqV] at h <;> try (cases h; done)
      rename_i cs1 cs2
      obtain ⟨xs, rfl, l1, _, r1⟩ := h1.agg'
      obtain ⟨ys, rfl, l2, _, r2⟩ := h2.agg'
      cases d <;> simp only [reduceCtorEq, Option.some.injEq] at hc <;> try (cases hc; done)
      · split at hc
        case isFalse => cases hc
        rename_i hc'
        simp only [Option.map_eq_some_iff, EqC.flat.injEq] at hc
        obtain ⟨_, hc, rfl⟩ := hc
        simp only [Bool.and_eq_true, Bool.not_eq_true', beq_iff_eq] at hc'
        refine ⟨run_eqGuard_agg w op t x y xs ys hc'.2, ⟨rfl, rfl⟩, ?_⟩
        obtain ⟨i, hi, hi1⟩ := Option.map_eq_some_iff.1 hc'.1.1
        show (Op.equalIn (9999 + 1) t (.agg xs) (.agg ys)).run P w = _
        rw [run_equalIn_array w 9999 xs ys hu hi, List.range_eq_range', show P.cellsOf _ = 1 from by unfold Program.cellsOf; rw [hi]; simpa using hi1]
        exact eqItems_sound 9998 hc hc'.1.2 _ 0 cs1 cs2 r h (fun j hj => ⟨by omega, by rw [Nat.zero_add]; exact r1 j hj⟩) (fun j hj => ⟨by omega, by rw [Nat.zero_add]; exact r2 j hj⟩)
      · split at hc
        case isFalse => cases hc
        rename_i fs hc'
        simp only [Option.map_eq_some_iff, EqC.flat.injEq] at hc
        obtain ⟨_, hc, rfl⟩ := hc
        simp only [Bool.and_eq_true, Bool.not_eq_true'] at hc'
        have hfs : P.fieldsOf t = fs := by simp [Program.fieldsOf, hu]
        refine ⟨run_eqGuard_agg w op t x y xs ys hc'.2, ⟨rfl, rfl⟩, ?_⟩
        show (Op.equalIn (9999 + 1) t (.agg xs) (.agg ys)).run P w = _
        rw [run_equalIn_struct w 9999 t xs ys (by rw [hfs]; exact hu) hc'.1, hfs]
        exact eqFields_sound 9998 _ 0 _ cs1 cs2 r hc h (fun j hj => ⟨by omega, by rw [Nat.zero_add]; exact r1 j hj⟩) (fun j hj => ⟨by omega, by rw [Nat.zero_add]; exact r2 j hj⟩)
end
end Go.Eng
