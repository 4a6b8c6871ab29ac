/-
  ENGINE, part 12: copy, clear, maps, ranges over strings, literals of slices.
-/
import Derived.Test.YtoommmeapdkopaaE11
namespace Go.Eng

section
variable {P : Program} {φ : Phi} {H : Heap} {A : Nat → Prop} {w : World}

theorem sl_block {id off n cap k : Nat} {u : Value} {cs : List V} (hx : VR φ H A w (.sl id off n cap k) u) (hb : H[id]? = some (.cells cs)) : ∃ r c, u = .slice (some ⟨r, off, none⟩) n c ∧ φ id = some r := by
  cases hx with
  | rr hh => cases hh
  | sdead a c hd => rw [hb] at hd; cases hd
  | sl hr hn hc hx => exact ⟨_, _, rfl, hr⟩

theorem turns_copy (g : Good φ H A w) {t e : TypeId} {tys : Array TypeId} {k : Nat} {d s v : V} {u1 u2 : Value} {H' : Heap} (ht0 : tys[0]? = some t) (ht : P.underlying t = some (.slice e)) (hk : sizeT P e = some k) (ty : TypeId)
    (hd : VR φ H A w d u1) (hs : VR φ H A w s u2) (h : copyV k H d s = some (v, H')) : Turns P φ H A w H' (Builtin.copy_ tys ty #[u1, u2]) v := by
  simp only [copyV, Option.bind_eq_some_iff] at h
  obtain ⟨⟨xs, n⟩, hc, h⟩ := h
  obtain ⟨us, hl, hcl, hlen, hfirst, _⟩ := slice_sound (P := P) g (Sub.refl _) hs hc
  have hlu := hcl.length
  have hz : ∀ (base : Option Addr) (c : Nat), u1 = .slice base 0 c → v = .int .i64 0 → H' = H → Turns P φ H A w H' (Builtin.copy_ tys ty #[u1, u2]) v := by
    intro base c h1 h2 h3
    subst h1 h2 h3
    have hf := hfirst 0 (Nat.zero_le _) w rfl
    simp only [Nat.zero_mul, List.take_zero] at hf
    refine ⟨.int .i64 0, w, φ, ?_, .rr (.int _ _), .refl g⟩
    cases base <;> simp [Builtin.copy_, ht0, run_underlying ht, hlen, run_sizeT hk, hf, goInt, storeCells]
  cases d <;> simp only at h <;> try (cases h; done)
  · cases h; obtain rfl := hd.nils'; exact hz _ _ rfl rfl rfl
  · cases h; obtain ⟨a, rfl⟩ := hd.z0'; exact hz _ _ rfl rfl rfl
  · cases h; obtain ⟨a, c, rfl⟩ := hd.e0'; exact hz _ _ rfl rfl rfl
  · rename_i id off m cap k'
    cases hb : H[id]? with
    | none => rw [hb] at h; cases h
    | some b =>
      rw [hb] at h
      cases b <;> simp only at h <;> try (cases h; done)
      rename_i cs0
      split at h
      case isFalse => cases h
      rename_i hle
      cases h
      obtain ⟨r, c, rfl, hr⟩ := sl_block hd hb
      have hmn : min n m * k ≤ n * k := Nat.mul_le_mul_right k (Nat.min_le_left _ _)
      obtain ⟨w', q1, q2⟩ := put_cells (P := P) (o := off) g hr hb (hcl.take (min n m * k)) (by simp only [List.length_take]; omega)
      have hf := hfirst (min n m) (Nat.min_le_left _ _) w rfl
      have q := q1 off 0 rfl
      refine ⟨.int .i64 (min n m : Nat), w', φ, ?_, .rr (.int _ _), q2⟩
      have hmin : Nat.min n m = min n m := rfl
      simp [Builtin.copy_, ht0, run_underlying ht, hlen, run_sizeT hk, hmin, hf, goInt, q]

theorem turns_clr (g : Good φ H A w) {t e : TypeId} {tys : Array TypeId} {k : Nat} {z x v : V} {u : Value} {H' : Heap} (ht0 : tys[0]? = some t) (ht : P.underlying t = some (.slice e)) (hz : zeroV P e = some z) (hk0 : k ≠ 0) (hcz : (cellsV z).length = k) (ty : TypeId)
    (hx : VR φ H A w x u) (h : clrV k (cellsV z) H x = some (v, H')) : Turns P φ H A w H' (Builtin.clear_ tys ty #[u]) v := by
  obtain ⟨i, uz, hi, hiz, hvz, hnt⟩ := zeroV_sound hz φ H A w
  have hcl := hvz.cells hnt
  have hsz : uz.cells.size = k := by have := hcl.length; simpa [hcz] using this
  have h0 : ∀ (base : Option Addr) (c : Nat), u = .slice base 0 c → v = undefV → H' = H → Turns P φ H A w H' (Builtin.clear_ tys ty #[u]) v := by
    intro base c h1 h2 h3
    subst h1 h2 h3
    refine ⟨.tuple #[], w, φ, ?_, VR.undef, .refl g⟩
    cases base <;> simp [Builtin.clear_, ht0, run_underlying ht]
  cases x <;> simp only [clrV] at h <;> try (cases h; done)
  · cases h; obtain rfl := hx.nils'; exact h0 _ _ rfl rfl rfl
  · cases h; obtain ⟨a, rfl⟩ := hx.z0'; exact h0 _ _ rfl rfl rfl
  · cases h; obtain ⟨a, c, rfl⟩ := hx.e0'; exact h0 _ _ rfl rfl rfl
  · rename_i id off n cap k'
    cases hb : H[id]? with
    | none => rw [hb] at h; cases h
    | some b =>
      rw [hb] at h
      cases b <;> simp only at h <;> try (cases h; done)
      rename_i cs0
      split at h
      case isFalse => cases h
      rename_i hle
      cases h
      obtain ⟨r, c, rfl, hr⟩ := sl_block hx hb
      have hrep := hcl.rep n
      have hrl : (rep n (cellsV z)).length = n * k := by simp [rep, hcz]
      obtain ⟨w', q1, q2⟩ := put_cells (P := P) (o := off) g hr hb hrep (by omega)
      have q := q1 off 0 rfl
      have hzc : (Builtin.zeroCells uz.cells n).toList = (List.replicate n uz.cells.toList).flatten := by
        rw [← made_toList _ _ _ hsz hk0, madeCells, Builtin.zeroCells, hsz]
      refine ⟨.tuple #[], w', φ, ?_, VR.undef, q2⟩
      cases n with
      | zero =>
        simp only [List.replicate_zero, List.flatten_nil] at q
        simp only [storeCells, Sem.run_pure, Result.ok.injEq, true_and] at q
        subst q
        simp [Builtin.clear_, ht0, run_underlying ht]
      | succ n => simp [Builtin.clear_, ht0, run_underlying ht, run_zero hi hiz, hzc, q]

theorem run_getObj {r : Nat} {o : Obj} (h : w.heap[r]? = some o) (ho : ∀ c e f, o ≠ .cells c e f) : (getObj r).run P w = .ok o w := by
  simp only [getObj, Sem.run, h]
theorem run_setObj {r : Nat} {o o' : Obj} (h : w.heap[r]? = some o) (ho : ∀ c e f, o ≠ .cells c e f) : (setObj r o').run P w = .ok () { w with heap := w.heap.setIfInBounds r o' } := by
  simp only [setObj, Sem.run, h]

theorem key_desc {t : TypeId} {fk : FK} (h : flat1 P t = some fk) : ∃ d, P.underlying t = some d ∧ ((fk = .b ∧ d = .bool) ∨ (fk = .i ∧ ∃ k, d = .int k) ∨ (fk = .s ∧ d = .string)) := by
  cases fk
  · exact ⟨_, flat1_b h, .inl ⟨rfl, rfl⟩⟩
  · obtain ⟨k, hk⟩ := flat1_i h; exact ⟨_, hk, .inr (.inl ⟨rfl, k, rfl⟩)⟩
  · exact ⟨_, flat1_s h, .inr (.inr ⟨rfl, rfl⟩)⟩

theorem run_checkKey {t : TypeId} {fk : FK} (h : flat1 P t = some fk) (b : Bool) (u : Value) (n : Nat) : (Instr.checkKey b (n + 1) t u).run P w = .ok () w := by
  obtain ⟨d, hd, h | ⟨_, k, h⟩ | h⟩ := key_desc h
  · obtain ⟨_, rfl⟩ := h; simp [Instr.checkKey, run_underlying hd]
  · subst h; simp [Instr.checkKey, run_underlying hd]
  · obtain ⟨_, rfl⟩ := h; simp [Instr.checkKey, run_underlying hd]

theorem same_sound {fk : FK} {d : TypeDesc} (hfd : (fk = .b ∧ d = .bool) ∨ (fk = .i ∧ ∃ k, d = .int k) ∨ (fk = .s ∧ d = .string)) {x y : V} {u1 u2 : Value} {b : Bool} (h1 : VR φ H A w x u1) (h2 : VR φ H A w y u2) (h : eq1 fk x y = some b) :
    Instr.sameNow d u1 u2 = some b ∧ (b = true → Instr.sameBits 10000 u2 u1 = true) := by
  rcases hfd with ⟨rfl, rfl⟩ | ⟨rfl, k, rfl⟩ | ⟨rfl, rfl⟩ <;> cases x <;> cases y <;> simp only [eq1] at h <;> try (cases h; done)
  · obtain rfl := h1.bool'; obtain rfl := h2.bool'; cases h
    exact ⟨rfl, fun hb => by simp only [beq_iff_eq] at hb; subst hb; simp [Instr.sameBits]⟩
  · obtain rfl := h1.int'; obtain rfl := h2.int'
    split at h
    · rename_i hk; subst hk; cases h
      exact ⟨by simp [Instr.sameNow], fun hb => by simp only [beq_iff_eq] at hb; subst hb; simp [Instr.sameBits]⟩
    · cases h
  · obtain ⟨s, rfl, rfl⟩ := h1.str'; obtain ⟨s', rfl, rfl⟩ := h2.str'; cases h
    have e : (s == s') = (s.data.toList == s'.data.toList) := by rw [beq_toListBytes, bytes_eq, bytes_eq]
    exact ⟨by simp [Instr.sameNow, e], fun hb => by
      have hb' : s.data.toList = s'.data.toList := by simpa using hb
      simp only [Instr.sameBits]
      rw [beq_toListBytes, bytes_eq, bytes_eq, hb']
      simp⟩

theorem find_sound {fk : FK} {d : TypeDesc} (hfd : (fk = .b ∧ d = .bool) ∨ (fk = .i ∧ ∃ k, d = .int k) ∨ (fk = .s ∧ d = .string)) {key : V} {u : Value} (hk : VR φ H A w key u) : ∀ (es : List (V × V)) (ents : List MapEntry) (j : Nat) (r : Option Nat), ents.length = es.length →
    (∀ i (h : i < es.length), VR φ H A w es[i].1 (ents.getD i default).key) → findK fk key es = some r →
    Instr.findNow d u ents j = some (r.map fun i => (j + i, (ents.getD i default).val)) ∧ ∀ i, r = some i → i < es.length ∧ Instr.sameBits 10000 (ents.getD i default).key u = true
  | [], [], j, r, _, _, h => by simp only [findK, Option.some.injEq] at h; subst h; exact ⟨rfl, by simp⟩
  | e :: es, x :: ents, j, r, hl, hv, h => by
    simp only [findK, Option.bind_eq_some_iff] at h
    obtain ⟨b, hb, h⟩ := h
    obtain ⟨q1, q2⟩ := same_sound hfd hk (hv 0 (Nat.succ_pos _)) hb
    have q1' : Instr.sameNow d u x.key = some b := q1
    cases b with
    | true =>
      rw [if_pos rfl] at h
      cases h
      refine ⟨by simp [Instr.findNow, q1'], fun i hi => ?_⟩
      cases hi
      exact ⟨Nat.succ_pos _, q2 rfl⟩
    | false =>
      rw [if_neg (by simp)] at h
      simp only [Option.map_eq_some_iff] at h
      obtain ⟨r', hr', rfl⟩ := h
      obtain ⟨p1, p2⟩ := find_sound hfd hk es ents (j + 1) r' (by simpa using hl) (fun i hi => hv (i + 1) (Nat.succ_lt_succ hi)) hr'
      refine ⟨?_, fun i hi => ?_⟩
      · simp only [Instr.findNow, q1', p1]
        cases r' with
        | none => rfl
        | some i => simp; omega
      · simp only [Option.map_eq_some_iff] at hi
        obtain ⟨i', rfl, rfl⟩ := hi
        obtain ⟨a, b⟩ := p2 i' rfl
        exact ⟨Nat.succ_lt_succ a, b⟩
  | [], _ :: _, _, _, hl, _, _ => by simp at hl
  | _ :: _, [], _, _, hl, _, _ => by simp at hl

theorem run_find {t : TypeId} {fk : FK} (hf : flat1 P t = some fk) {key : V} {u : Value} (hk : VR φ H A w key u) {es : List (V × V)} {ents : Array MapEntry} {r : Option Nat} (hl : ents.size = es.length)
    (hv : ∀ i (h : i < es.length), VR φ H A w es[i].1 (ents.getD i default).key) (h : findK fk key es = some r) :
    (Instr.findKey t u ents.toList).run P w = .ok (r.map fun i => (i, (ents.getD i default).val)) w ∧ ∀ i, r = some i → i < es.length ∧ Instr.sameBits 10000 (ents.getD i default).key u = true := by
  obtain ⟨d, hd, hfd⟩ := key_desc hf
  have e : ∀ i, ents.toList.getD i default = ents.getD i default := fun i => by
    by_cases hi : i < ents.size <;> simp [List.getD, Array.getD, hi]
  obtain ⟨q1, q2⟩ := find_sound hfd hk es ents.toList 0 r (by simpa using hl) (fun i hi => by rw [e]; exact hv i hi) h
  refine ⟨?_, fun i hi => by rw [← e]; exact q2 i hi⟩
  simp only [Instr.findKey, Sem.run_bind, run_underlying hd, Result.andThen_ok, q1, Sem.run_pure]
  cases r with
  | none => rfl
  | some i => simp only [Option.map_some, e, Nat.zero_add]

theorem map_block {id : Nat} {u : Value} {es : List (V × V)} (hx : VR φ H A w (.map id) u) (hb : H[id]? = some (.map es)) : ∃ r, u = .map (some r) ∧ φ id = some r := by
  cases hx with
  | rr hh => cases hh
  | mdead r hd => rw [hb] at hd; cases hd
  | map hr => exact ⟨_, rfl, hr⟩

theorem gives_lk (g : Good φ H A w) {H0 : Heap} (hs : Sub H0 H) {t kt e : TypeId} {fk : FK} {zero m key v : V} {ok : Bool} {u1 u2 : Value} (ht : P.underlying t = some (.map kt e)) (hf : flat1 P kt = some fk) (hz : zeroV P e = some zero)
    (h1 : VR φ H A w m u1) (h2 : VR φ H A w key u2) (h : lkV H0 fk zero ok m key = some v) : Gives P φ H A w (Instr.lookup t u1 u2 ok) v := by
  obtain ⟨i, uz, hi, hiz, hvz, hnt⟩ := zeroV_sound hz φ H A w
  have hzr := run_zero hi hiz w
  have hck := fun b => run_checkKey (P := P) (w := w) hf b u2 9999
  have hout : ∀ (a : V) (ua : Value) (b : Bool), VR φ H A w a ua → VR φ H A w (if ok then .tup [a, .bool b] else a) (if ok then .tuple #[ua, .bool b] else ua) := by
    intro a ua b ha
    cases ok
    · exact ha
    · refine .tup rfl (fun i hi => ?_)
      match i, hi with
      | 0, _ => exact ha
      | 1, _ => exact .rr (.bool b)
  simp only [lkV] at h
  split at h
  case isFalse => cases h
  cases m <;> simp only at h <;> try (cases h; done)
  · rename_i id
    cases hb : H0[id]? with
    | none => rw [hb] at h; cases h
    | some b =>
      rw [hb] at h
      cases b <;> simp only at h <;> try (cases h; done)
      rename_i es
      simp only [Option.bind_eq_some_iff] at h
      obtain ⟨r, hr, h⟩ := h
      have hb' := hs id _ hb
      obtain ⟨q, rfl, hq⟩ := map_block h1 hb'
      obtain ⟨ents, clock, hh, hl, hv⟩ := g.block hq hb'
      obtain ⟨p1, p2⟩ := run_find (P := P) hf h2 hl (fun i hi => (hv i hi).1) hr
      have hgo := run_getObj (P := P) hh (by simp)
      cases r with
      | none =>
        cases h
        refine ⟨_, ?_, hout zero uz false hvz⟩
        simp only [Option.map_none] at p1
        simp [Instr.lookup, run_underlying ht, hgo, hck, p1, hzr]
      | some j =>
        simp only [Option.map_eq_some_iff] at h
        obtain ⟨ev, hev, rfl⟩ := h
        obtain ⟨hj, _⟩ := p2 j rfl
        obtain ⟨_, hev2⟩ := List.getElem?_eq_some_iff.1 hev
        refine ⟨_, ?_, hout ev.2 (ents.getD j default).val true (by rw [← hev2]; exact (hv j hj).2)⟩
        simp only [Option.map_some] at p1
        simp [Instr.lookup, run_underlying ht, hgo, hck, p1]
  · cases h
    obtain rfl := h1.nilm'
    have hfe : (Instr.findKey kt u2 []).run P w = .ok none w := by
      obtain ⟨d, hd, _⟩ := key_desc hf
      simp [Instr.findKey, run_underlying hd, Instr.findNow]
    refine ⟨_, ?_, hout zero uz false hvz⟩
    simp [Instr.lookup, run_underlying ht, hck, hfe, hzr]

theorem gives_lenm (g : Good φ H A w) {H0 : Heap} (hs : Sub H0 H) {t kt e ty : TypeId} {m v : V} {u : Value} (ht : P.underlying t = some (.map kt e)) (h1 : VR φ H A w m u) (h : lenmV H0 m = some v) : Gives P φ H A w (Builtin.len_ #[t] ty #[u]) v := by
  cases m <;> simp only [lenmV] at h <;> try (cases h; done)
  · rename_i id
    cases hb : H0[id]? with
    | none => rw [hb] at h; cases h
    | some b =>
      rw [hb] at h
      cases b <;> simp only at h <;> try (cases h; done)
      cases h
      have hb' := hs id _ hb
      obtain ⟨q, rfl, hq⟩ := map_block h1 hb'
      obtain ⟨ents, clock, hh, hl, hv⟩ := g.block hq hb'
      have hgo := run_getObj (P := P) hh (by simp)
      exact ⟨.int .i64 ents.size, by simp [Builtin.len_, run_underlying ht, hgo, goInt], by rw [hl]; exact .rr (.int _ _)⟩
  · cases h
    obtain rfl := h1.nilm'
    exact ⟨.int .i64 0, by simp [Builtin.len_, run_underlying ht, goInt], .rr (.int _ _)⟩

theorem turns_mup (g : Good φ H A w) {t kt e : TypeId} {fk : FK} {m key x : V} {u1 u2 u3 : Value} {H' : Heap} (ht : P.underlying t = some (.map kt e)) (hf : flat1 P kt = some fk)
    (h1 : VR φ H A w m u1) (h2 : VR φ H A w key u2) (h3 : VR φ H A w x u3) (h : mupV H fk m key x = some H') : ∃ w', (Instr.mapUpdate t u1 u2 u3).run P w = .ok () w' ∧ Led φ H A w φ H' A w' := by
  have hck := fun b => run_checkKey (P := P) (w := w) hf b u2 9999
  simp only [mupV] at h
  split at h
  case isFalse => cases h
  cases m <;> simp only at h <;> try (cases h; done)
  rename_i id
  cases hb : H[id]? with
  | none => rw [hb] at h; cases h
  | some b =>
    rw [hb] at h
    cases b <;> simp only at h <;> try (cases h; done)
    rename_i es
    simp only [Option.map_eq_some_iff] at h
    obtain ⟨r, hr, rfl⟩ := h
    obtain ⟨q, rfl, hq⟩ := map_block h1 hb
    obtain ⟨ents, clock, hh, hl, hv⟩ := g.block hq hb
    obtain ⟨p1, p2⟩ := run_find (P := P) hf h2 hl (fun i hi => (hv i hi).1) hr
    have hgo := run_getObj (P := P) hh (by simp)
    have hlt := (g.dom id q hq).1
    have hput : ∀ (es' : List (V × V)) (ents' : Array MapEntry) (c' : Nat), ents'.size = es'.length → ((∀ i (h : i < es'.length), VR φ H A w es'[i].1 (ents'.getD i default).key ∧ VR φ H A w es'[i].2 (ents'.getD i default).val)) →
        Led φ H A w φ (H.set id (.map es')) A { w with heap := w.heap.setIfInBounds q (.map ents' c') } := by
      intro es' ents' c' hl' hv'
      refine Led.put g hq (by simp) (fun k hk => by simp [Ne.symm hk]) (fun y hy => ?_) (fun hm => ?_) (fun o' ho' c t f he => ?_)
      · unfold World.shape? at hy; rw [hh] at hy; cases hy
      · exact ⟨ents', c', by simp [hlt], hl', fun i hi => ⟨hm _ _ (hv' i hi).1, hm _ _ (hv' i hi).2⟩⟩
      · simp [hlt] at ho'; subst ho'; cases he
    cases r with
    | none =>
      simp only [Option.map_none] at p1
      refine ⟨_, ?_, hput (es ++ [(key, x)]) (ents.push { key := u2, val := u3, born := clock }) (clock + 1) (by simp [hl]) (fun i hi => ?_)⟩
      · have hso := run_setObj (P := P) (o' := .map (ents.push { key := u2, val := u3, born := clock }) (clock + 1)) hh (by simp)
        simp [Instr.mapUpdate, run_underlying ht, hgo, hck, p1, hso]
      · by_cases hi' : i < es.length
        · have e1 : (ents.push { key := u2, val := u3, born := clock }).getD i default = ents.getD i default := by
            have : i < ents.size := by omega
            simp [Array.getD, this, Array.getElem_push_lt, Nat.lt_succ_of_lt this]
          rw [e1, List.getElem_append_left hi']; exact hv i hi'
        · have hie : i = es.length := by simp at hi; omega
          subst hie
          have e1 : (ents.push { key := u2, val := u3, born := clock }).getD es.length default = { key := u2, val := u3, born := clock } := by
            rw [← hl]; simp [Array.getD]
          rw [e1]; simp only [List.getElem_append_right (Nat.le_refl _), Nat.sub_self, List.getElem_cons_zero]
          exact ⟨h2, h3⟩
    | some j =>
      simp only [Option.map_some] at p1
      obtain ⟨hj, hsb⟩ := p2 j rfl
      have hje : j < ents.size := by omega
      refine ⟨_, ?_, hput (es.modify j fun _ => (key, x)) (ents.modify j fun e => { e with key := u2, val := u3 }) clock (by simp [hl]) (fun i hi => ?_)⟩
      · have hso := run_setObj (P := P) (o' := .map (ents.modify j fun e => { e with key := u2, val := u3 }) clock) hh (by simp)
        have hks : (Instr.keyThatStays (((ents[j]?).map (·.key)).getD u2) u2).run P w = .ok u2 w := by
          have e2 : ((ents[j]?).map (·.key)).getD u2 = (ents.getD j default).key := by simp [hje, Array.getD]
          rw [e2]; unfold Instr.keyThatStays; rw [if_pos hsb]; rfl
        simp [Instr.mapUpdate, run_underlying ht, hgo, hck, p1, hks, hso]
      · simp only [List.length_modify] at hi
        have hie : i < ents.size := by omega
        by_cases hij : j = i
        · subst hij
          have e1 : (ents.modify j fun e => { e with key := u2, val := u3 }).getD j default = { (ents.getD j default) with key := u2, val := u3 } := by
            simp [Array.getD, hie, Array.getElem_modify]
          rw [e1, List.getElem_modify]; simp only [if_true]; exact ⟨h2, h3⟩
        · have e1 : (ents.modify j fun e => { e with key := u2, val := u3 }).getD i default = ents.getD i default := by
            simp [Array.getD, hie, Array.getElem_modify, hij]
          rw [e1, List.getElem_modify, if_neg hij]; exact hv i hi
end
end Go.Eng
