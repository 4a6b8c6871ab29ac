/-
  ENGINE, part 10: operations that write.
-/
import Derived.Test.YtoommmeapdkopaaE9
namespace Go.Eng

section
variable {P : Program} {φ : Phi} {H : Heap} {A : Nat → Prop} {w : World}

theorem Good.inr (g : Good φ H A w) {i r : Nat} (h : φ i = some r) : ∃ b, H[i]? = some b ∧ b ≠ B.dead := by
  obtain ⟨_, _, b, hb, hr⟩ := g.dom i r h
  exact ⟨b, hb, fun e => by subst e; exact hr⟩
theorem Good.lt (g : Good φ H A w) {i r : Nat} (h : φ i = some r) : i < H.length := by
  obtain ⟨b, hb, _⟩ := g.inr h; exact (List.getElem?_eq_some_iff.1 hb).1

theorem rowhas_put {w w' : World} {r : Nat} (ho : ∀ k, k ≠ r → w'.heap[k]? = w.heap[k]?) (hsh : ∀ x, w.shape? r = some x → w'.shape? r = some x) (q s : Nat) (h : RowHas w q s) : RowHas w' q s := by
  obtain ⟨t, n, h1, h2⟩ := h
  by_cases he : q = r
  · subst he; exact ⟨t, n, hsh _ h1, h2⟩
  · exact ⟨t, n, (shape_congr (ho q he)).trans h1, h2⟩

theorem BR.plain {b : B} {r : Nat} (h : BR φ H A w b r) : ∀ o, w.heap[r]? = some o → Plain o := by
  intro o ho c t f he
  subst he
  cases b with
  | cells cs => obtain ⟨_, _, h1, _⟩ := h; rw [h1] at ho; cases ho; rfl
  | map es => obtain ⟨_, _, h1, _⟩ := h; rw [h1] at ho; cases ho
  | siter s p => obtain ⟨_, h1, _⟩ := h; rw [h1] at ho; cases ho
  | dead => exact h.elim
theorem Good.plain (g : Good φ H A w) {i r : Nat} (hi : φ i = some r) : ∀ o, w.heap[r]? = some o → Plain o := by
  obtain ⟨_, _, b, _, hb⟩ := g.dom i r hi
  exact hb.plain

theorem Led.put (g : Good φ H A w) {id r : Nat} {b' : B} (hi : φ id = some r) {w' : World} (hs : w'.heap.size = w.heap.size) (ho : ∀ k, k ≠ r → w'.heap[k]? = w.heap[k]?) (hsh : ∀ x, w.shape? r = some x → w'.shape? r = some x)
    (hbr : (∀ v u, VR φ H A w v u → VR φ (H.set id b') A w' v u) → BR φ (H.set id b') A w' b' r)
    (hpl : ∀ o, w'.heap[r]? = some o → Plain o) (hq : w'.os = w.os ∧ w'.output = w.output ∧ w'.tape = w.tape := by exact ⟨rfl, rfl, rfl⟩) : Led φ H A w φ (H.set id b') A w' := by
  have hlt := g.lt hi
  obtain ⟨b, hb, hbd⟩ := g.inr hi
  have e : Ext φ A w φ A w' := ⟨by omega, fun k _ hk => ho k (fun h => hk ⟨id, h ▸ hi⟩), fun _ h => h, fun _ h => .inl h, fun _ h => .inl h, rowhas_put ho hsh, .put hq ho (g.plain hi) hpl⟩
  have k : Keeps φ H φ (H.set id b') := ⟨fun _ _ h => .inl h, fun i h => by
    rw [List.getElem?_set]
    split
    · rename_i he; subst he; rw [hb] at h; cases h; exact absurd rfl hbd
    · exact h⟩
  have hv : ∀ v u, VR φ H A w v u → VR φ (H.set id b') A w' v u := fun v u h => h.ext g e k
  refine ⟨⟨g.inj, fun i q hq => ?_, fun x hx => by have := g.fresh x hx; omega⟩, e, k⟩
  obtain ⟨h1, h2, c, h3, h4⟩ := g.dom i q hq
  refine ⟨by omega, h2, ?_⟩
  by_cases he : i = id
  · subst he
    rw [hi] at hq; cases hq
    exact ⟨b', by rw [List.getElem?_set_self hlt], hbr hv⟩
  · exact ⟨c, by rw [List.getElem?_set_ne (fun h => he h.symm)]; exact h3, h4.mono hv (ho q (fun h => he (g.inj i id r (h ▸ hq) hi)))⟩

theorem Led.grow (g : Good φ H A w) (N : Heap) : Led φ H A w φ (H ++ N) A w := by
  have e : Ext φ A w φ A w := .refl ..
  have k : Keeps φ H φ (H ++ N) := ⟨fun _ _ h => .inl h, fun i h => Sub.app H N i _ h⟩
  refine ⟨⟨g.inj, fun i q hq => ?_, g.fresh⟩, e, k⟩
  obtain ⟨h1, h2, c, h3, h4⟩ := g.dom i q hq
  exact ⟨h1, h2, c, Sub.app H N i _ h3, h4.mono (fun v u h => h.ext g e k) rfl⟩

def kil (φ : Phi) (id : Nat) : Phi := fun i => if i = id then none else φ i
theorem kil_self (φ : Phi) (id : Nat) : kil φ id id = none := by simp [kil]
theorem kil_other {φ : Phi} {id i : Nat} (h : i ≠ id) : kil φ id i = φ i := by simp [kil, h]

theorem Led.kill (g : Good φ H A w) {id r : Nat} (hi : φ id = some r) : Led φ H A w (kil φ id) (H.set id .dead) A w := by
  have hlt := g.lt hi
  have hk : ∀ i q, kil φ id i = some q → i ≠ id ∧ φ i = some q := fun i q h => by
    by_cases he : i = id
    · rw [he, kil_self] at h; cases h
    · exact ⟨he, by rw [kil_other he] at h; exact h⟩
  have e : Ext φ A w (kil φ id) A w := ⟨Nat.le_refl _, fun _ _ _ => rfl, fun _ h => h, fun _ h => .inl h, fun b ⟨i, h⟩ => .inl ⟨i, (hk i b h).2⟩, fun _ _ h => h, .refl w⟩
  have k : Keeps φ H (kil φ id) (H.set id .dead) := ⟨fun i q h => by
      by_cases he : i = id
      · subst he; exact .inr (List.getElem?_set_self hlt)
      · exact .inl (by rw [kil_other he]; exact h),
    fun i h => by
      by_cases he : id = i
      · subst he; exact List.getElem?_set_self hlt
      · rw [List.getElem?_set_ne he]; exact h⟩
  refine ⟨⟨fun i j q h1 h2 => g.inj i j q (hk i q h1).2 (hk j q h2).2, fun i q h => ?_, g.fresh⟩, e, k⟩
  obtain ⟨he, hq⟩ := hk i q h
  obtain ⟨h1, h2, c, h3, h4⟩ := g.dom i q hq
  exact ⟨h1, h2, c, by rw [List.getElem?_set_ne (fun h => he h.symm)]; exact h3, h4.mono (fun v u h => h.ext g e k) rfl⟩

theorem Led.move (g : Good φ H A w) {id r : Nat} {b : B} (hi : φ id = some r) {w' : World} (hs : w'.heap.size = w.heap.size) (ho : ∀ k, k ≠ r → w'.heap[k]? = w.heap[k]?) (hsh : ∀ x, w.shape? r = some x → w'.shape? r = some x)
    (hbr : (∀ v u, VR φ H A w v u → VR (upd (kil φ id) H.length r) (H.set id .dead ++ [b]) A w' v u) → BR (upd (kil φ id) H.length r) (H.set id .dead ++ [b]) A w' b r)
    (hpl : ∀ o, w'.heap[r]? = some o → Plain o) (hq : w'.os = w.os ∧ w'.output = w.output ∧ w'.tape = w.tape := by exact ⟨rfl, rfl, rfl⟩) : Led φ H A w (upd (kil φ id) H.length r) (H.set id .dead ++ [b]) A w' := by
  have hlt := g.lt hi
  have hk : ∀ i q, upd (kil φ id) H.length r i = some q → (i = H.length ∧ q = r) ∨ (i ≠ id ∧ i ≠ H.length ∧ φ i = some q) := fun i q h => by
    by_cases he : i = H.length
    · rw [he, upd_self] at h; cases h; exact .inl ⟨he, rfl⟩
    · rw [upd_other he] at h
      by_cases he' : i = id
      · rw [he', kil_self] at h; cases h
      · rw [kil_other he'] at h; exact .inr ⟨he', he, h⟩
  have hset : ∀ i c, i ≠ id → H[i]? = some c → (H.set id B.dead ++ [b])[i]? = some c := fun i c he h => by
    have hil := (List.getElem?_eq_some_iff.1 h).1
    rw [List.getElem?_append_left (by simpa using hil), List.getElem?_set_ne (fun h => he h.symm)]; exact h
  have hdead : (H.set id B.dead ++ [b])[id]? = some B.dead := by
    rw [List.getElem?_append_left (by simpa using hlt), List.getElem?_set_self hlt]
  have e : Ext φ A w (upd (kil φ id) H.length r) A w' :=
    ⟨by omega, fun k _ hk => ho k (fun h => hk ⟨id, h ▸ hi⟩), fun _ h => h, fun _ h => .inl h, fun q ⟨i, h⟩ => by
      rcases hk i q h with ⟨_, rfl⟩ | ⟨_, _, h⟩
      · exact .inl ⟨id, hi⟩
      · exact .inl ⟨i, h⟩, rowhas_put ho hsh, .put hq ho (g.plain hi) hpl⟩
  have k : Keeps φ H (upd (kil φ id) H.length r) (H.set id .dead ++ [b]) := ⟨fun i q h => by
      by_cases he : i = id
      · subst he; exact .inr hdead
      · have := g.lt h
        exact .inl (by rw [upd_other (by omega), kil_other he]; exact h),
    fun i h => by
      by_cases he : i = id
      · subst he; exact hdead
      · exact hset i _ he h⟩
  have hv : ∀ v u, VR φ H A w v u → VR (upd (kil φ id) H.length r) (H.set id .dead ++ [b]) A w' v u := fun v u h => h.ext g e k
  refine ⟨⟨fun i j q h1 h2 => ?_, fun i q h => ?_, fun x hx => by have := g.fresh x hx; omega⟩, e, k⟩
  · rcases hk i q h1 with ⟨rfl, rfl⟩ | ⟨a1, a2, a3⟩ <;> rcases hk j _ h2 with ⟨rfl, hq⟩ | ⟨b1, b2, b3⟩
    · rfl
    · exact absurd (g.inj j id _ b3 hi) b1
    · subst hq; exact absurd (g.inj i id _ a3 hi) a1
    · exact g.inj i j q a3 b3
  · rcases hk i q h with ⟨rfl, rfl⟩ | ⟨a1, a2, a3⟩
    · obtain ⟨h1, h2, _⟩ := g.dom id q hi
      exact ⟨by omega, h2, b, by rw [List.getElem?_append_right (by simp)]; simp, hbr hv⟩
    · obtain ⟨h1, h2, c, h3, h4⟩ := g.dom i q a3
      exact ⟨by omega, h2, c, hset i c a1 h3, h4.mono hv (ho q (fun h => a1 (g.inj i id r (h ▸ a3) hi)))⟩

def Turns (P : Program) (φ : Phi) (H : Heap) (A : Nat → Prop) (w : World) (H' : Heap) (s : Sem Value) (v : V) : Prop :=
  ∃ u w' φ', s.run P w = .ok u w' ∧ VR φ' H' A w' v u ∧ Led φ H A w φ' H' A w'

theorem put_cells (g : Good φ H A w) {id r : Nat} {cs xs : List V} {vs : List Value} {o : Nat} (hi : φ id = some r) (hb : H[id]? = some (.cells cs)) (hx : CL φ H A w xs vs) (ho : o + xs.length ≤ cs.length) :
    ∃ w', (∀ (off i : Nat), off + i = o → (storeCells ⟨r, off, none⟩ vs i).run P w = .ok () w') ∧ Led φ H A w φ (H.set id (.cells (ovl cs o xs))) A w' := by
  obtain ⟨us, rest, elem, hh, hc⟩ := (g.block hi hb).row
  have hl := hc.length
  have hlx := hx.length
  refine ⟨w.setRow r ((us.take o ++ vs ++ us.drop (o + vs.length)) ++ rest).toArray, fun off i hoi => ?_, Led.put g hi (by simp) (fun k hk => setRow_other w r k _ hk) (fun x hx => ?_) (fun hv => ?_) (fun o' ho' c t f he => ?_)⟩
  · have := run_storeCells_at P r off elem vs i (us ++ rest).toArray w hh (by simp; omega) hx.all
    rw [this]
    congr 2
    rw [hoi]
    apply Array.ext'
    rw [List.toList_toArray, List.toList_toArray]
    rw [List.take_append_of_le_length (by omega), List.drop_append_of_le_length (by omega)]
    simp
  · unfold World.shape? at hx ⊢
    rw [hh] at hx
    rw [setRow_heap w r _ _ elem _ hh]
    cases hx
    simp only [Option.some.injEq, Prod.mk.injEq, true_and, List.size_toArray, List.length_append, List.length_take, List.length_drop]
    omega
  · exact BR.of_row (setRow_heap w r _ _ elem _ hh) ((hc.ovl hx ho).mono hv)
  · rw [setRow_heap w r _ _ elem _ hh] at ho'; cases ho'; cases he; rfl

theorem turns_store (g : Good φ H A w) {t : TypeId} {k : Nat} {p x : V} {u1 u2 : Value} {H' : Heap} (hk : sizeT P t = some k) (hp : VR φ H A w p u1) (hx : VR φ H A w x u2) (hnt : notTup x = true) (hlen : (cellsV x).length = k)
    (h : wrt H p (cellsV x) = some H') : ∃ w', (Instr.storeAt t u1 u2).run P w = .ok () w' ∧ Led φ H A w φ H' A w' := by
  cases p <;> simp only [wrt] at h <;> try (cases h; done)
  rename_i id off
  cases hb : H[id]? with
  | none => rw [hb] at h; cases h
  | some b =>
    rw [hb] at h
    cases b <;> simp only at h <;> try (cases h; done)
    split at h
    case isFalse => cases h
    rename_i cs0 hle
    cases h
    cases hp with
    | rr hh => cases hh
    | pdead a hd => rw [hb] at hd; cases hd
    | ptr hr =>
      have hc := hx.cells hnt
      obtain ⟨w', q1, q2⟩ := put_cells (P := P) g hr hb hc hle
      refine ⟨w', ?_, q2⟩
      have hsz : u2.cells.size = k := by have := hc.length; simpa [hlen] using this
      simp [Instr.storeAt, Instr.sureAddr, storeVar, run_sizeT hk, hsz, q1 off 0 rfl]

section
variable {t u e : TypeId} {d : TypeDesc} {i : TypeInfo} {z : Value}
theorem run_append_same (ht : P.underlying t = some (.slice e)) (hu : P.underlying u = some d) (hd : okSrc d = true) (hi : P.info? e = some i) (ty : TypeId) {base : Option Addr} {sLen sCap : Nat} {x : Value}
    (hlen : (Builtin.lenOf x).run P w = .ok 0 w) (hnew : (Builtin.firstCells i.size 0 x).run P w = .ok #[] w) (hcap : sLen ≤ sCap) :
    (Builtin.append_ #[t, u] ty #[.slice base sLen sCap, x]).run P w = .ok (.slice base sLen sCap) w := by
  cases base with
  | none => cases d <;> first | (cases hd; done) | simp [Builtin.append_, run_underlying ht, run_underlying hu, sizeOf, typeInfo, hi, hlen, hcap, hnew]
  | some a => cases d <;> first | (cases hd; done) | simp [Builtin.append_, run_underlying ht, run_underlying hu, sizeOf, typeInfo, hi, hlen, hcap, hnew, storeCells]

theorem run_append_here (ht : P.underlying t = some (.slice e)) (hu : P.underlying u = some d) (hd : okSrc d = true) (hi : P.info? e = some i) (ty : TypeId) {a : Addr} {sLen sCap n : Nat} {x : Value} {news : List Value} {w' : World}
    (hlen : (Builtin.lenOf x).run P w = .ok n w) (hnew : (Builtin.firstCells i.size n x).run P w = .ok news.toArray w) (hcap : sLen + n ≤ sCap) (hst : (storeCells (a.add (sLen * i.size)) news).run P w = .ok () w') :
    (Builtin.append_ #[t, u] ty #[.slice (some a) sLen sCap, x]).run P w = .ok (.slice (some a) (sLen + n) sCap) w' := by
  cases d <;> first | (cases hd; done) | simp [Builtin.append_, run_underlying ht, run_underlying hu, sizeOf, typeInfo, hi, hlen, hcap, hnew, hst]

theorem run_append_new (ht : P.underlying t = some (.slice e)) (hu : P.underlying u = some d) (hd : okSrc d = true) (hi : P.info? e = some i) (hz : i.zero = some z) (ty : TypeId) {base : Option Addr} {sLen sCap n : Nat} {x : Value} {olds news : Array Value}
    (hlen : (Builtin.lenOf x).run P w = .ok n w) (hnew : (Builtin.firstCells i.size n x).run P w.drew = .ok news w.drew) (hold : (Builtin.firstCells i.size sLen (.slice base sLen sCap)).run P w.drew = .ok olds w.drew)
    (hcap : sCap < sLen + n) (hb : i.bytes ≠ 0) (hroom : (sLen + n) * i.bytes ≤ room) :
    (Builtin.append_ #[t, u] ty #[.slice base sLen sCap, x]).run P w =
      .ok (.slice (some ⟨w.heap.size, 0, none⟩) (sLen + n) (grownCap w (sLen + n) sCap e)) (w.drew.alloc (.cells (olds ++ news ++ Builtin.zeroCells z.cells (grownCap w (sLen + n) sCap e - (sLen + n))) e)) := by
  unfold room at hroom
  have hn : ¬ (sLen + n ≤ sCap) := by omega
  have h1 : sLen + n ≤ (sLen + n) * i.bytes := Nat.le_mul_of_pos_right _ (by omega)
  have h63' : ¬ (9223372036854775807 < ((sLen : Int) + (n : Int))) := by omega
  have hfit := growslice_fits (bytes := i.bytes) hcap (by omega)
  have h48' : ¬ (281474976710656 < Builtin.nextslicecap (sLen + n) sCap * i.bytes) := by omega
  cases d <;> first | (cases hd; done) | simp [Builtin.append_, run_underlying ht, run_underlying hu, sizeOf, typeInfo, zeroValue, hi, hz, hlen, hn, h63', h48', Question.forced, hnew, hold, newRow, grownCap]
end
end
end Go.Eng
