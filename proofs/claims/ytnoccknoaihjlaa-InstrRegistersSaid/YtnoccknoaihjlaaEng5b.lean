import Derived.Test.YtnoccknoaihjlaaEng5
set_option linter.unusedVariables false
set_option linter.unusedSimpArgs false
set_option linter.unnecessarySimpa false
/- The engine, part 5b: maps whose entries are known. -/
namespace Go.DE
universe u v

theorem plainK_ok {P : Program} {t : TypeId} (h : plainK P t = true) : (∃ k, P.underlying t = some (.int k)) ∨ P.underlying t = some .string ∨ P.underlying t = some .bool := by
  unfold plainK underD at h
  split at h
  · rename_i k hk; exact .inl ⟨k, hk⟩
  · rename_i hk; exact .inr (.inl hk)
  · rename_i hk; exact .inr (.inr hk)
  · simp at h

theorem run_checkKey {P : Program} {t : TypeId} (h : plainK P t = true) (e : Bool) (n : Nat) (v : Value) (w : World) : (Instr.checkKey e (n + 1) t v).run P w = .ok () w := by
  unfold Instr.checkKey
  rcases plainK_ok h with ⟨k, hk⟩ | hk | hk <;> simp only [Sem.run_bind, run_underlying hk, Result.andThen_ok] <;> cases v <;> rfl

theorem sameNow_ok {P : Program} {g : G} {w : World} {t : TypeId} {k ek : DV} {vk ve : Value} {r : DB} {d : TypeDesc} (hd : P.underlying t = some d) (hp : plainK P t = true) (h : eqV P t k ek = some r) (hk : Rep g w k vk) (he : Rep g w ek ve) :
    Instr.sameNow d vk ve = some r.v := by
  have hu := plainK_ok hp
  rw [hd] at hu
  unfold eqV underD at h
  rw [hd] at h
  split at h <;> (try simp only [Rep] at hk he)
  · split at h
    · rename_i h1; obtain rfl := Option.some.inj h1; obtain rfl := Option.some.inj h; subst hk he; simp [Instr.sameNow, eqB_v]
    · simp at h
  · split at h
    · rename_i h1 h2
      obtain rfl := Option.some.inj h1; obtain rfl := Option.some.inj h; subst hk he
      obtain rfl := of_decide_eq_true h2
      simp [Instr.sameNow, twoB_v]
    · simp at h
  · split at h
    · rename_i h1; obtain rfl := Option.some.inj h1; obtain rfl := Option.some.inj h; subst hk he; simp [Instr.sameNow, eqS_v, beq_toListBytes]
    · simp at h
  all_goals first
    | (split at h
       · rename_i h1; obtain rfl := Option.some.inj h1; simp at hu
       · simp at h)
    | simp at h

/-- What the search for a key found. -/
def FoundR (g : G) (w : World) (d : TypeDesc) (vk : Value) (es : List (DV × DV)) (ms : List MapEntry) (i : Nat) : Option (Nat × DV) → Prop
  | some (j, v) => ∃ vv, Instr.findNow d vk ms i = some (some (j, vv)) ∧ Rep g w v vv ∧ i ≤ j ∧ ∃ ek, es[j - i]? = some (ek, v) ∧ ∃ m, ms[j - i]? = some m ∧ m.val = vv ∧ Instr.sameNow d vk m.key = some true
  | none => Instr.findNow d vk ms i = some none

theorem findT_ok {P : Program} {g : G} {w : World} {t : TypeId} {k : DV} {vk : Value} {d : TypeDesc} (hd : P.underlying t = some d) (hp : plainK P t = true) (hk : Rep g w k vk) :
    ∀ (es : List (DV × DV)) (ms : List MapEntry) (i : Nat) (r : Option (Nat × DV)), RepL g w (es.map (·.1)) (ms.map (·.key)) → RepL g w (es.map (·.2)) (ms.map (·.val)) → (findT P t k es i).Path r →
      FoundR g w d vk es ms i r
  | [], ms, i, r, h1, h2, h => by
    obtain rfl : r = none := h
    simp only [List.map_nil, RepL] at h1
    have : ms = [] := by cases ms <;> simp at h1 ⊢
    subst this
    rfl
  | (ek, v) :: es, ms, i, r, h1, h2, h => by
    cases ms with
    | nil => simp [RepL] at h1
    | cons m ms =>
      simp only [List.map_cons, RepL] at h1 h2
      obtain ⟨kv, us, he1, hkv, h1⟩ := h1
      obtain ⟨vv, us', he2, hvv, h2⟩ := h2
      simp only [List.cons.injEq] at he1 he2
      obtain ⟨rfl, rfl⟩ := he1
      obtain ⟨rfl, rfl⟩ := he2
      have found : ∀ b : DB, eqV P t k ek = some b → b.v = true → r = some (i, v) → FoundR g w d vk ((ek, v) :: es) (m :: ms) i r := by
        intro b hb hv hr
        subst hr
        have hs := sameNow_ok hd hp hb hk hkv
        rw [hv] at hs
        exact ⟨m.val, by simp [Instr.findNow, hs], hvv, Nat.le_refl _, ek, by simp, m, by simp, rfl, hs⟩
      have next : ∀ b : DB, eqV P t k ek = some b → b.v = false → (findT P t k es (i + 1)).Path r → FoundR g w d vk ((ek, v) :: es) (m :: ms) i r := by
        intro b hb hv hr
        have hs := sameNow_ok hd hp hb hk hkv
        rw [hv] at hs
        have ih := findT_ok hd hp hk es ms (i + 1) r h1 h2 hr
        cases r with
        | none => simpa [FoundR, Instr.findNow, hs] using ih
        | some x =>
          obtain ⟨j, v'⟩ := x
          obtain ⟨vv, a1, a2, a3, ek', a4, m', a5, a6, a7⟩ := ih
          refine ⟨vv, by simpa [Instr.findNow, hs] using a1, a2, by omega, ek', ?_, m', ?_, a6, a7⟩
          · rw [show j - i = (j - (i + 1)) + 1 by omega]; simpa using a4
          · rw [show j - i = (j - (i + 1)) + 1 by omega]; simpa using a5
      unfold findT at h
      split at h
      · rename_i hb; exact found _ hb rfl h
      · rename_i hb; exact next _ hb rfl h
      · rename_i b hb
        rcases h with ⟨hv, h⟩ | ⟨hv, h⟩
        · exact found _ hb hv h
        · exact next _ hb hv h
      · exact h.elim

theorem run_findKey {P : Program} {t : TypeId} {d : TypeDesc} (hd : P.underlying t = some d) {vk : Value} {ms : List MapEntry} {r : Option (Nat × Value)} (h : Instr.findNow d vk ms 0 = some r) (w : World) :
    (Instr.findKey t vk ms).run P w = .ok r w := by
  simp [Instr.findKey, run_underlying hd, h]

theorem zeroV_ok {P : Program} {t : TypeId} {d : DV} (h : zeroV P t = some d) : ∃ z, (∀ w, (zeroValue t).run P w = .ok z w) ∧ ∀ g w, Rep g w d z := by
  unfold zeroV at h
  split at h
  · rename_i i hi
    split at h
    · rename_i cs hz
      split at h
      · rename_i l hl
        obtain rfl := Option.some.inj h
        refine ⟨.agg cs, fun w => by simp [zeroValue, typeInfo, hi, hz], fun g w => ?_⟩
        simp only [Rep]
        exact ⟨cs.toList, by simp, ofValues_ok hl, ofValues_one hl⟩
      · simp at h
    · rename_i z hz _
      exact ⟨z, fun w => by simp [zeroValue, typeInfo, hi, ‹i.zero = some z›], fun g w => rep_of_value g w h⟩
    · simp at h
  · simp at h

theorem run_getMap {P : Program} {w : World} {b : Nat} {ms : List MapEntry} {ck : Nat} (h : w.heap[b]? = some (.map ms.toArray ck)) : (getObj b).run P w = .ok (.map ms.toArray ck) w := by
  simp [getObj, Sem.run, h]

theorem lookupT_ok {P : Program} {g : G} {hp : Hp} {w : World} (hR : Rel g hp w) {t : TypeId} {m k : DV} {vm vk : Value} {ok : Bool} {d : DV} (h : (lookupT P hp t m k ok).Path d) (hm : Rep g w m vm) (hk : Rep g w k vk) :
    Gives P g w (Instr.lookup t vm vk ok) d := by
  unfold lookupT at h
  split at h
  · rename_i kt et hu
    split at h
    · rename_i z hpk hz
      obtain ⟨zv, hzr, hzz⟩ := zeroV_ok hz
      obtain ⟨kd, hkd⟩ : ∃ kd, P.underlying kt = some kd := by
        rcases plainK_ok hpk with ⟨q, hq⟩ | hq | hq <;> exact ⟨_, hq⟩
      have fin : ∀ (dv : DV) (v : Value) (b : Bool), Rep g w dv v → Rep g w (okT ok dv b) (if ok then .tuple #[v, .bool b] else v) := by
        intro dv v b r
        cases ok
        · exact r
        · simp only [okT, Rep]
          exact ⟨[v, .bool b], rfl, RepL.cons r (RepL.cons (by simp [Rep, DB.v]) RepL.nil)⟩
      split at h
      · simp only [Rep] at hm
        subst hm
        obtain rfl : d = _ := h
        refine ⟨_, ?_, fin z zv false (hzz g w)⟩
        have hf : (Instr.findKey kt vk []).run P w = .ok none w := run_findKey hkd (by cases kd <;> rfl) w
        simp only [Instr.lookup, Sem.run_bind, run_under hu, Result.andThen_ok, Sem.run_pure, run_checkKey hpk true 9999 vk w, Array.isEmpty_empty, hf, hzr]
      · rename_i id
        simp only [Rep] at hm
        obtain ⟨b, hb, rfl⟩ := hm
        split at h
        · rename_i es hl
          obtain ⟨b', hb', ⟨ms, ck, h1, h2, h3⟩, _⟩ := hR.there hl (fun h => h)
          obtain rfl : b = b' := by rw [hb] at hb'; exact Option.some.inj hb'
          obtain ⟨r, hr, hd⟩ := T.path_bind h
          have hf := findT_ok hkd hpk hk es ms 0 r h2 h3 hr
          cases r with
          | none =>
            obtain rfl : d = _ := hd
            refine ⟨_, ?_, fin z zv false (hzz g w)⟩
            simp only [Instr.lookup, Sem.run_bind, run_under hu, Result.andThen_ok, Sem.run_pure, run_getMap h1, run_checkKey hpk _ 9999 vk w, run_findKey hkd hf w, hzr]
          | some x =>
            obtain ⟨j, v⟩ := x
            obtain ⟨vv, a1, a2, _⟩ := hf
            obtain rfl : d = _ := hd
            refine ⟨_, ?_, fin v vv true a2⟩
            simp only [Instr.lookup, Sem.run_bind, run_under hu, Result.andThen_ok, Sem.run_pure, run_getMap h1, run_checkKey hpk _ 9999 vk w, run_findKey hkd a1 w]
        · exact h.elim
      · exact h.elim
    · exact h.elim
  · exact h.elim

end Go.DE
