/-
  ENGINE, part 31: maps from strings to rows that grow.
-/
import Derived.Test.YtoommmeapdkopaaE30
namespace Go.Eng

abbrev AL := List (List UInt8 × V)
def AL.es (A : AL) : List (V × V) := A.map fun p => (.str p.1, p.2)
def AL.look (A : AL) (t : List UInt8) : Option V := match A with
  | [] => none
  | p :: r => if p.1 = t then some p.2 else AL.look r t
def AL.put (A : AL) (t : List UInt8) (v : V) : AL := match A with
  | [] => [(t, v)]
  | p :: r => if p.1 = t then (t, v) :: r else p :: AL.put r t v

theorem AL.look_put {t t' : List UInt8} {v : V} : ∀ (A : AL), AL.look (A.put t v) t' = if t = t' then some v else AL.look A t'
  | [] => by simp only [AL.put, AL.look]
  | p :: r => by
    have ih := AL.look_put (t := t) (t' := t') (v := v) r
    simp only [AL.put]
    split
    · rename_i h
      simp only [AL.look, h]
      by_cases e : t = t' <;> simp [e]
    · rename_i h
      simp only [AL.look, ih]
      by_cases e : t = t'
      · subst e; simp [h]
      · simp [e]

theorem findK_es {t : List UInt8} : ∀ (A : AL), ∃ r, findK .s (.str t) A.es = some r ∧ (r = none → A.look t = none ∧ A.put t = fun v => A ++ [(t, v)]) ∧ (∀ i, r = some i → (∃ v, A.look t = some v ∧ A.es[i]? = some (.str t, v)) ∧ ∀ v, (A.put t v).es = A.es.modify i fun _ => (.str t, v))
  | [] => ⟨none, rfl, fun _ => ⟨rfl, rfl⟩, fun i h => by cases h⟩
  | p :: r => by
    obtain ⟨q, h1, h2, h3⟩ := findK_es (t := t) r
    simp only [AL.es, List.map_cons, findK, eq1, Option.bind_some]
    by_cases e : t = p.1
    · have e' : (t == p.1) = true := by simp [e]
      refine ⟨some 0, by simp [e'], fun h => (by cases h), fun i hi => ?_⟩
      obtain rfl : 0 = i := by simpa using hi
      refine ⟨⟨p.2, by simp [AL.look, e], by simp [e]⟩, fun v => ?_⟩
      simp [AL.put, e]
    · have e' : (t == p.1) = false := by simp [e]
      have e2 : ¬ p.1 = t := fun h => e h.symm
      have h1' : findK .s (.str t) (r.map fun p => (V.str p.1, p.2)) = some q := h1
      refine ⟨q.map (· + 1), by simp [e', h1'], fun h => ?_, fun i hi => ?_⟩
      · have : q = none := by simpa using h
        obtain ⟨a, b⟩ := h2 this
        exact ⟨by simp [AL.look, e2, a], by funext v; simp [AL.put, e2, congrFun b v]⟩
      · cases q with
        | none => simp at hi
        | some j =>
          obtain rfl : j + 1 = i := by simpa using hi
          obtain ⟨⟨v, a, b⟩, c⟩ := h3 j rfl
          refine ⟨⟨v, by simp [AL.look, e2, a], by simpa [AL.es] using b⟩, fun v => ?_⟩
          have := c v
          simp only [AL.es] at this
          simp [AL.put, e2, this]

theorem lkV_al {H : Heap} {id : Nat} {A : AL} (h : H[id]? = some (.map A.es)) {t : List UInt8} {z : V} : lkV H .s z false (.map id) (.str t) = some ((A.look t).getD z) := by
  obtain ⟨r, h1, h2, h3⟩ := findK_es (t := t) A
  simp only [lkV, keyIs, if_true, h, h1, Option.bind_some]
  cases r with
  | none => simp [(h2 rfl).1]
  | some i =>
    obtain ⟨⟨v, a, b⟩, _⟩ := h3 i rfl
    simp [a, b]
theorem mupV_al {H : Heap} {id : Nat} {A : AL} (h : H[id]? = some (.map A.es)) {t : List UInt8} {v : V} : mupV H .s (.map id) (.str t) v = some (H.set id (.map (A.put t v).es)) := by
  obtain ⟨r, h1, h2, h3⟩ := findK_es (t := t) A
  simp only [mupV, keyIs, if_true, h, h1, Option.map_some]
  cases r with
  | none =>
    have := congrFun (h2 rfl).2 v
    rw [this]; simp [AL.es]
  | some i => rw [(h3 i rfl).2]

def MapR (H : Heap) (A : AL) (f : List UInt8 → List Int) : Prop :=
  H[0]? = some (.map A.es) ∧ (∀ t, (A.look t = none ∧ f t = []) ∨ ∃ id, 0 < id ∧ A.look t = some (.sl id 0 (f t).length (f t).length 1) ∧ H[id]? = some (.cells ((f t).map (V.int .i64))))
    ∧ ∀ t t' id n m c d, A.look t = some (.sl id 0 n c 1) → A.look t' = some (.sl id 0 m d 1) → t = t'

namespace MapR
variable {H : Heap} {A : AL} {f : List UInt8 → List Int}
theorem alloc (h : MapR H A f) (l : Heap) : MapR (H ++ l) A f := by
  obtain ⟨h1, h2, h3⟩ := h
  have lt := (List.getElem?_eq_some_iff.1 h1).1
  refine ⟨by rw [List.getElem?_append_left lt]; exact h1, fun t => (h2 t).imp id fun ⟨i, a, b, c⟩ => ⟨i, a, b, ?_⟩, h3⟩
  rw [List.getElem?_append_left (List.getElem?_eq_some_iff.1 c).1]; exact c
theorem push (h : MapR H A f) {t : List UInt8} {x : Int} (hb : ((f t).length + 1) * 8 ≤ room) :
    ∃ v v' H' H'', lkV H .s .nils false (.map 0) (.str t) = some v ∧ appV 1 8 true (H ++ [.cells [.int .i64 x]]) v (.sl H.length 0 1 1 1) = some (v', H') ∧ mupV H' .s (.map 0) (.str t) v' = some H'' ∧ MapR H'' (A.put t v') (fun t' => if t = t' then f t ++ [x] else f t') ∧ ∀ id, 0 < id → id < H.length → (∀ t n c, A.look t ≠ some (.sl id 0 n c 1)) → H''[id]? = H[id]? := by
  obtain ⟨h1, h2, h3⟩ := h
  have lt0 := (List.getElem?_eq_some_iff.1 h1).1
  have hs : sliceCells (H ++ [.cells [.int .i64 x]]) (.sl H.length 0 1 1 1) 1 = some ([.int .i64 x], 1) := by simp [sliceCells]
  rcases h2 t with ⟨hl, hf⟩ | ⟨id, hid, hl, hc⟩
  · have g0 : ((H ++ [B.cells [.int .i64 x]]) ++ [B.cells [.int .i64 x]])[0]? = some (.map A.es) := by
      rw [List.getElem?_append_left (by simp), List.getElem?_append_left lt0]; exact h1
    refine ⟨.nils, .sl (H.length + 1) 0 1 1 1, (H ++ [.cells [.int .i64 x]]) ++ [.cells [.int .i64 x]], _, by rw [lkV_al h1, hl]; rfl, ?_, mupV_al g0, ⟨?_, fun t' => ?_, fun t1 t2 i n m c d e1 e2 => ?_⟩, fun i hi hlt' hno => ?_⟩
    · rw [hf] at hb; simp at hb
      simp [appV, hs, isSlice, room]
    · rw [List.getElem?_set]; simp
    · by_cases e : t = t'
      · subst e
        refine .inr ⟨H.length + 1, by omega, by rw [AL.look_put]; simp [hf], ?_⟩
        rw [List.getElem?_set_ne (by omega), List.getElem?_append_right (by simp)]
        simp [hf]
      · rw [AL.look_put]
        simp only [e, if_false]
        refine (h2 t').imp id fun ⟨i, a, b, c⟩ => ⟨i, a, b, ?_⟩
        have := (List.getElem?_eq_some_iff.1 c).1
        rw [List.getElem?_set_ne (by omega), List.getElem?_append_left (by simp; omega), List.getElem?_append_left this]; exact c
    · have old : ∀ t' i n c, A.look t' = some (.sl i 0 n c 1) → i < H.length := fun t' i n c e => by
        rcases h2 t' with ⟨a, _⟩ | ⟨j, _, a, b⟩
        · rw [a] at e; cases e
        · rw [a] at e; cases e; exact (List.getElem?_eq_some_iff.1 b).1
      rw [AL.look_put] at e1 e2
      by_cases q1 : t = t1 <;> by_cases q2 : t = t2
      · rw [← q1, ← q2]
      · simp only [q1, q2, if_true, if_false] at e1 e2; rw [if_neg (fun h => q2 (q1.trans h))] at e2; cases e1; have := old _ _ _ _ e2; omega
      · simp only [q1, q2, if_true, if_false] at e1 e2; rw [if_neg (fun h => q1 (q2.trans h))] at e1; cases e2; have := old _ _ _ _ e1; omega
      · simp only [q1, q2, if_false] at e1 e2; exact h3 _ _ _ _ _ _ _ e1 e2
    · rw [List.getElem?_set_ne (by omega), List.getElem?_append_left (by simp; omega), List.getElem?_append_left hlt']
  · have hlt := (List.getElem?_eq_some_iff.1 hc).1
    have g : (H ++ [B.cells [.int .i64 x]])[id]? = some (.cells ((f t).map (V.int .i64))) := by rw [List.getElem?_append_left hlt]; exact hc
    have ga : appV 1 8 true (H ++ [.cells [.int .i64 x]]) (.sl id 0 (f t).length (f t).length 1) (.sl H.length 0 1 1 1) = some (.sl (H.length + 1) 0 ((f t).length + 1) ((f t).length + 1) 1, (H ++ [B.cells [.int .i64 x]]).set id .dead ++ [.cells ((f t).map (V.int .i64) ++ [.int .i64 x])]) := by
      simp only [Option.getD_some, appV, hs, Option.bind_some, Nat.one_ne_zero, if_false, and_self, if_true, g, show ¬ ((f t).length + 1 ≤ (f t).length) by omega, true_and, Nat.mul_one, List.length_map, Nat.le_refl, hb]
      have e : ((f t).map (V.int .i64)).take (f t).length = (f t).map (V.int .i64) := List.take_of_length_le (by simp)
      rw [e]
      simp
    have g0 : ((H ++ [B.cells [.int .i64 x]]).set id .dead ++ [B.cells ((f t).map (V.int .i64) ++ [.int .i64 x])])[0]? = some (.map A.es) := by
      rw [List.getElem?_append_left (by simp), List.getElem?_set_ne (by omega), List.getElem?_append_left lt0]; exact h1
    refine ⟨_, _, _, _, by rw [lkV_al h1, hl]; rfl, ga, mupV_al g0, ⟨?_, fun t' => ?_, fun t1 t2 i n m c d e1 e2 => ?_⟩, fun i hi hlt' hno => ?_⟩
    · rw [List.getElem?_set]; simp
    · by_cases e : t = t'
      · subst e
        refine .inr ⟨H.length + 1, by omega, by rw [AL.look_put]; simp, ?_⟩
        rw [List.getElem?_set_ne (by omega), List.getElem?_append_right (by simp)]
        simp
      · rw [AL.look_put]
        simp only [e, if_false]
        refine (h2 t').imp (fun h => h) fun ⟨i, a, b, c⟩ => ⟨i, a, b, ?_⟩
        have := (List.getElem?_eq_some_iff.1 c).1
        have ne : id ≠ i := fun h => by subst h; exact e (h3 _ _ _ _ _ _ _ hl b)
        rw [List.getElem?_set_ne (by omega), List.getElem?_append_left (by simp; omega), List.getElem?_set_ne ne, List.getElem?_append_left this]; exact c
    · have old : ∀ t' i n c, A.look t' = some (.sl i 0 n c 1) → i < H.length := fun t' i n c e => by
        rcases h2 t' with ⟨a, _⟩ | ⟨j, _, a, b⟩
        · rw [a] at e; cases e
        · rw [a] at e; cases e; exact (List.getElem?_eq_some_iff.1 b).1
      rw [AL.look_put] at e1 e2
      by_cases q1 : t = t1 <;> by_cases q2 : t = t2
      · rw [← q1, ← q2]
      · rw [if_pos q1] at e1; rw [if_neg q2] at e2; cases e1; have := old _ _ _ _ e2; omega
      · rw [if_neg q1] at e1; rw [if_pos q2] at e2; cases e2; have := old _ _ _ _ e1; omega
      · rw [if_neg q1] at e1; rw [if_neg q2] at e2; exact h3 _ _ _ _ _ _ _ e1 e2
    · have ne : id ≠ i := fun h => by subst h; exact hno _ _ _ hl
      rw [List.getElem?_set_ne (by omega), List.getElem?_append_left (by simp; omega), List.getElem?_set_ne ne, List.getElem?_append_left hlt']
end MapR

theorem AL.look_none {t : List UInt8} : ∀ (A : AL), t ∉ A.map Prod.fst → AL.look A t = none
  | [], _ => rfl
  | p :: r, h => by
    simp only [List.map_cons, List.mem_cons, not_or] at h
    rw [AL.look, if_neg (fun e => h.1 e.symm), AL.look_none r h.2]
theorem AL.look_mem : ∀ (A : AL), (A.map Prod.fst).Nodup → ∀ p ∈ A, AL.look A p.1 = some p.2
  | [], _, p, h => by simp at h
  | q :: r, hd, p, h => by
    simp only [List.map_cons, List.nodup_cons] at hd
    rcases List.mem_cons.1 h with rfl | h
    · simp [AL.look]
    · have ne : ¬ q.1 = p.1 := fun e => hd.1 (by rw [e]; exact List.mem_map_of_mem h)
      rw [AL.look, if_neg ne]
      exact AL.look_mem r hd.2 p h
theorem AL.put_keys {t : List UInt8} {v : V} : ∀ (A : AL), (AL.put A t v).map Prod.fst = if t ∈ A.map Prod.fst then A.map Prod.fst else A.map Prod.fst ++ [t]
  | [] => by simp [AL.put]
  | p :: r => by
    have ih := AL.put_keys (t := t) (v := v) r
    simp only [AL.put]
    by_cases e : p.1 = t
    · simp [e]
    · have e' : ¬ t = p.1 := fun h => e h.symm
      simp only [e, if_false, List.map_cons, ih, List.mem_cons, e', false_or]
      split <;> rfl
theorem AL.put_nodup {t : List UInt8} {v : V} {A : AL} (h : (A.map Prod.fst).Nodup) : ((AL.put A t v).map Prod.fst).Nodup := by
  rw [AL.put_keys]
  split
  · exact h
  · rename_i hn
    rw [List.nodup_append]
    exact ⟨h, by simp, fun a ha b hb e => hn (by rw [← List.mem_singleton.1 hb, ← e]; exact ha)⟩
theorem AL.look_map {g : V → V} {t : List UInt8} : ∀ (A : AL), AL.look (A.map fun p => (p.1, g p.2)) t = (AL.look A t).map g
  | [] => rfl
  | p :: r => by
    simp only [List.map_cons, AL.look, AL.look_map r]
    split <;> rfl

def MapC (H : Heap) (m : V) (f : List UInt8 → List Int) : Prop :=
  ∃ id A, m = .map id ∧ H[id]? = some (.map (AL.es A)) ∧ ∀ t, (AL.look A t = none ∧ f t = []) ∨ ∃ v, AL.look A t = some v ∧ Arr 1 (Ty.R (.int .i64)) v (f t)
theorem MapC.look {H : Heap} {m : V} {f : List UInt8 → List Int} (h : MapC H m f) (t : List UInt8) : ∃ v, lkV H .s .nils false m (.str t) = some v ∧ Arr 1 (Ty.R (.int .i64)) v (f t) := by
  obtain ⟨id, A, rfl, h1, h2⟩ := h
  refine ⟨_, lkV_al h1, ?_⟩
  rcases h2 t with ⟨a, b⟩ | ⟨v, a, b⟩
  · rw [a, b]
    exact ints_arr (by simp [top]) (by simp) (.inr ⟨rfl, .inl rfl⟩)
  · rw [a]; exact b
theorem MapC.app {H : Heap} {m : V} {f : List UInt8 → List Int} (h : MapC H m f) (l : Heap) : MapC (H ++ l) m f := by
  obtain ⟨id, A, rfl, h1, h2⟩ := h
  exact ⟨id, A, rfl, by rw [List.getElem?_append_left (List.getElem?_eq_some_iff.1 h1).1]; exact h1, h2⟩

theorem hq2_map {H H1 : Heap} {A : AL} {f : List UInt8 → List Int} {K : V → Heap → Prop} (h : MapR H1 A f) (hn : (A.map Prod.fst).Nodup) (hb : ∀ t, (f t).length ≤ top) (hr : ∀ t, ∀ x ∈ f t, IntKind.i64.min ≤ x ∧ x ≤ IntKind.i64.max)
    (hK : ∀ m H', MapC H' m f → H'[H.length]?.isSome → H'.take H.length = H → K m H') : hq 2 H K (.map 0) H1 := by
  obtain ⟨h1, h2, h3⟩ := h
  let cl : V → V := fun v => match v with | .sl id _ n _ _ => (match H1[id]? with | some (.cells cs) => .ro cs n | _ => v) | v => v
  have hp : ∀ p ∈ A, closeV (H1.set 0 .dead) closeDepth p.2 = some (cl p.2) ∧ cl p.2 = .ro ((f p.1).map (V.int .i64)) (f p.1).length := fun p hp => by
    have e := AL.look_mem A hn p hp
    rcases h2 p.1 with ⟨a, _⟩ | ⟨id, hid, a, c⟩
    · rw [a] at e; cases e
    · rw [a] at e
      have e := (Option.some.inj e).symm
      rw [e]
      have g : (H1.set 0 .dead)[id]? = some (.cells ((f p.1).map (V.int .i64))) := by rw [List.getElem?_set_ne (by omega)]; exact c
      have e2 : cl (.sl id 0 (f p.1).length (f p.1).length 1) = .ro ((f p.1).map (V.int .i64)) (f p.1).length := by simp only [cl, c]
      refine ⟨?_, e2⟩
      rw [e2, show closeDepth = 11 + 1 from rfl, closeV_sl g (by simp)]
      have : List.take ((f p.1).length * 1) (List.drop 0 ((f p.1).map (V.int .i64))) = (f p.1).map (V.int .i64) := by
        rw [List.drop_zero]; exact List.take_of_length_le (by simp)
      rw [this, mapO_ints (d := 10)]
      rfl
  have hall : ∀ (B : AL), (∀ p ∈ B, closeV (H1.set 0 .dead) closeDepth p.2 = some (cl p.2)) → mapO (fun (e : V × V) => (closeV (H1.set 0 .dead) closeDepth e.1).bind fun a => (closeV (H1.set 0 .dead) closeDepth e.2).map fun b => (a, b)) (AL.es B) = some (AL.es (B.map fun p => (p.1, cl p.2))) := by
    intro B
    induction B with
    | nil => intro _; rfl
    | cons p r ih =>
      intro hB
      have ih' := ih fun q hq => hB q (by simp [hq])
      simp only [AL.es, List.map_cons, mapO, close_str, Option.bind_some, hB p (by simp), Option.map_some]
      simp only [AL.es] at ih'
      rw [ih']
      rfl
  unfold hq handV
  rw [if_neg (by decide)]
  simp only [h1, hall A fun p hp' => (hp p hp').1, Option.map_some, bd2_some]
  refine hK _ _ ⟨H.length, A.map fun p => (p.1, cl p.2), rfl, by simp, fun t => ?_⟩ (by simp) (by simp)
  rw [AL.look_map]
  rcases h2 t with ⟨a, b⟩ | ⟨id, hid, a, c⟩
  · exact .inl ⟨by rw [a]; rfl, b⟩
  · refine .inr ⟨cl (.sl id 0 (f t).length (f t).length 1), by rw [a]; rfl, ?_⟩
    have e2 : cl (.sl id 0 (f t).length (f t).length 1) = .ro ((f t).map (V.int .i64)) (f t).length := by simp only [cl, c]
    rw [e2]
    exact ints_arr (hb t) (hr t) (.inl rfl)
end Go.Eng
