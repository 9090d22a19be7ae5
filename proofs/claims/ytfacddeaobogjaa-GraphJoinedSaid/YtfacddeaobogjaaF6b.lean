import Derived.Test.YtfacddeaobogjaaF6
import Derived.Laws.BytesString
set_option linter.unusedVariables false
set_option linter.unusedSimpArgs false
set_option linter.unnecessarySimpa false
/- The engine, part 6b: looking a key up in a map of data. -/
namespace Go.DF
universe u v
set_option linter.unusedSimpArgs false
set_option linter.unusedVariables false
variable [Fam]

/-- What the search for a key in a map of data found. -/
def FoundM {kc ec : CT} (k : kc.D) (es : List (kc.D × ec.D)) (ms : List MapEntry) (i : Nat) : Option (Nat × Value) → Prop
  | some (j, vv) => i ≤ j ∧ (∃ x, es[j - i]? = some x ∧ kc.beq k x.1 = true ∧ getM kc.beq k es = some x.2 ∧ ∃ m, ms[j - i]? = some m ∧ m.val = vv) ∧ ∀ v, putM kc.beq k v es = es.set (j - i) (k, v)
  | none => getM kc.beq k es = none ∧ ∀ v, putM kc.beq k v es = es ++ [(k, v)]
theorem FoundM.here {kc ec : CT} {k : kc.D} {x : kc.D × ec.D} {es : List (kc.D × ec.D)} {m : MapEntry} {ms : List MapEntry} {i : Nat} (h : kc.beq k x.1 = true) : FoundM k (x :: es) (m :: ms) i (some (i, m.val)) := by
  obtain ⟨a, b⟩ := x
  refine ⟨Nat.le_refl _, ⟨(a, b), by simp, h, ?_, m, by simp, rfl⟩, fun v => ?_⟩
  · simp only at h; simp [getM, h]
  · simp only at h; simp [putM, h]
theorem FoundM.next {kc ec : CT} {k : kc.D} {x : kc.D × ec.D} {es : List (kc.D × ec.D)} {m : MapEntry} {ms : List MapEntry} {i : Nat} {r : Option (Nat × Value)} (h : kc.beq k x.1 = false) (hr : FoundM k es ms (i + 1) r) : FoundM k (x :: es) (m :: ms) i r := by
  obtain ⟨a, b⟩ := x
  simp only at h
  cases r with
  | none => exact ⟨by simp [getM, h, hr.1], fun v => by simp [putM, h, hr.2 v]⟩
  | some z =>
    obtain ⟨j, vv⟩ := z
    obtain ⟨h1, ⟨y, h2, h3, h4, m', h5, h6⟩, h7⟩ := hr
    have e : j - i = (j - (i + 1)) + 1 := by omega
    refine ⟨by omega, ⟨y, by rw [e]; simpa using h2, h3, by simp [getM, h, h4], m', by rw [e]; simpa using h5, h6⟩, fun v => ?_⟩
    rw [e]
    simp [putM, h, h7 v]

/-- Keys that are coded so. -/
def KeysOf (w : World) (S : Nat → Prop) (ka : Bool) (kc : CT) {α : Type} (es : List (kc.D × α)) (ms : List MapEntry) : Prop :=
  ms.length = es.length ∧ ∀ (i : Nat) (x : kc.D × α), es[i]? = some x → ∃ m, ms[i]? = some m ∧ vOf ka (Rp w S kc x.1) m.key
theorem KeysOf.cons {w : World} {S : Nat → Prop} {ka : Bool} {kc : CT} {α : Type} {x : kc.D × α} {es : List (kc.D × α)} {ms : List MapEntry} (h : KeysOf w S ka kc (x :: es) ms) :
    ∃ m ms', ms = m :: ms' ∧ vOf ka (Rp w S kc x.1) m.key ∧ KeysOf w S ka kc es ms' := by
  obtain ⟨h1, h2⟩ := h
  cases ms with
  | nil => simp at h1
  | cons m ms =>
    obtain ⟨m', h3, h4⟩ := h2 0 x rfl
    simp at h3
    subst h3
    exact ⟨m, ms, rfl, h4, by simpa using h1, fun i y hi => by simpa using h2 (i + 1) y (by simpa using hi)⟩
theorem KeysOf.nil {w : World} {S : Nat → Prop} {ka : Bool} {kc : CT} {α : Type} {ms : List MapEntry} (h : KeysOf w S ka kc ([] : List (kc.D × α)) ms) : ms = [] := List.length_eq_zero_iff.1 h.1

theorem findAsking_ok {P : Program} {w : World} {S : Nat → Prop} {kt : TypeId} {vk : Value} {ka : Bool} {kc ec : CT} {k : kc.D}
    (heq : ∀ (a : kc.D) (va : Value), vOf ka (Rp w S kc a) va → (Op.equal kt vk va).run P w = .ok (kc.beq k a) w) :
    ∀ (es : List (kc.D × ec.D)) (ms : List MapEntry) (i : Nat), KeysOf w S ka kc es ms → ∃ r, (Instr.findAsking kt vk ms i).run P w = .ok r w ∧ FoundM k es ms i r
  | [], ms, i, h => by
    obtain rfl := h.nil
    exact ⟨none, rfl, rfl, fun v => rfl⟩
  | x :: es, ms, i, h => by
    obtain ⟨m, ms, rfl, h1, h2⟩ := h.cons
    obtain ⟨r, h3, h4⟩ := findAsking_ok heq es ms (i + 1) h2
    have he := heq _ _ h1
    cases hb : kc.beq k x.1 with
    | true =>
      rw [hb] at he
      exact ⟨_, by simp [Instr.findAsking, he], FoundM.here hb⟩
    | false =>
      rw [hb] at he
      exact ⟨r, by simp [Instr.findAsking, he, h3], FoundM.next hb h4⟩
theorem findNow_ok {w : World} {S : Nat → Prop} {d : TypeDesc} {vk : Value} {ka : Bool} {kc ec : CT} {k : kc.D}
    (heq : ∀ (a : kc.D) (va : Value), vOf ka (Rp w S kc a) va → Instr.sameNow d vk va = some (kc.beq k a)) :
    ∀ (es : List (kc.D × ec.D)) (ms : List MapEntry) (i : Nat), KeysOf w S ka kc es ms → ∃ r, Instr.findNow d vk ms i = some r ∧ FoundM k es ms i r
  | [], ms, i, h => by
    obtain rfl := h.nil
    exact ⟨none, rfl, rfl, fun v => rfl⟩
  | x :: es, ms, i, h => by
    obtain ⟨m, ms, rfl, h1, h2⟩ := h.cons
    obtain ⟨r, h3, h4⟩ := findNow_ok heq es ms (i + 1) h2
    have he := heq _ _ h1
    cases hb : kc.beq k x.1 with
    | true =>
      rw [hb] at he
      exact ⟨_, by simp [Instr.findNow, he], FoundM.here hb⟩
    | false =>
      rw [hb] at he
      exact ⟨r, by simp [Instr.findNow, he, h3], FoundM.next hb h4⟩

theorem keyOk_spec {P : Program} {kt : TypeId} {ka : Bool} {kc : CT} {u : Unit} (h : (keyOk P kt ka kc).Path u) : kc.flat = true ∧
    ((ka = false ∧ ((∃ q, P.underlying kt = some (.int q) ∧ kc = .int q) ∨ (P.underlying kt = some .string ∧ kc = .str) ∨ (P.underlying kt = some .bool ∧ kc = .bool))) ∨ (ka = true ∧ keyT P kt kc)) := by
  unfold keyOk at h
  cases hf : kc.flat with
  | false => rw [hf] at h; exact h.elim
  | true =>
    rw [hf] at h
    refine ⟨rfl, ?_⟩
    cases ka with
    | true => exact .inr ⟨rfl, h.1⟩
    | false =>
      refine .inl ⟨rfl, ?_⟩
      dsimp only at h
      split at h
      · split at h
        · rename_i q q' _ h1 _ h2
          exact .inl ⟨_, ‹underD P kt = some (.int _)›, by rw [of_decide_eq_true h2]⟩
        · exact h.elim
      · rename_i h1; exact .inr (.inl ⟨h1, rfl⟩)
      · rename_i h1; exact .inr (.inr ⟨h1, rfl⟩)
      · exact h.elim
/-- What a key is asked for. -/
theorem findKey_ok {P : Program} {g : G} {w : World} {kt : TypeId} {vk : Value} {ka : Bool} {kc ec : CT} {k : kc.D} {u : Unit} (h : (keyOk P kt ka kc).Path u) (hag : aggOk P kt ka = true) (hk : vOf ka (Rp w g.pr kc k) vk)
    (es : List (kc.D × ec.D)) (ms : List MapEntry) (hes : KeysOf w g.pr ka kc es ms) :
    (∀ em, (Instr.checkKey em 10000 kt vk).run P w = .ok () w) ∧ ∃ r, (Instr.findKey kt vk ms).run P w = .ok r w ∧ FoundM k es ms 0 r := by
  obtain ⟨hf, ⟨rfl, ⟨q, hu, rfl⟩ | ⟨hu, rfl⟩ | ⟨hu, rfl⟩⟩ | ⟨rfl, hc, he⟩⟩ := keyOk_spec h
  · have hk : [vk] = [Value.int q k] := hk
    simp only [List.cons.injEq, and_true] at hk
    subst hk
    refine ⟨fun em => run_checkKey (by unfold plainK underD; rw [hu]) em 9999 _ w, ?_⟩
    obtain ⟨r, h1, h2⟩ := findNow_ok (kc := .int q) (d := .int q) (vk := .int q k) (k := k) (fun a va hva => by
      have hva : [va] = [Value.int q a] := hva
      simp only [List.cons.injEq, and_true] at hva
      subst hva
      simp [Instr.sameNow]; rfl) es ms 0 hes
    exact ⟨r, run_findKey hu h1 w, h2⟩
  · have hk : [vk] = [Value.string k] := hk
    simp only [List.cons.injEq, and_true] at hk
    subst hk
    refine ⟨fun em => run_checkKey (by unfold plainK underD; rw [hu]) em 9999 _ w, ?_⟩
    obtain ⟨r, h1, h2⟩ := findNow_ok (kc := .str) (d := .string) (vk := .string k) (k := k) (fun a va hva => by
      have hva : [va] = [Value.string a] := hva
      simp only [List.cons.injEq, and_true] at hva
      subst hva
      simp only [Instr.sameNow]
      exact congrArg some (beq_toListBytes k a)) es ms 0 hes
    exact ⟨r, run_findKey hu h1 w, h2⟩
  · have hk : [vk] = [Value.bool k] := hk
    simp only [List.cons.injEq, and_true] at hk
    subst hk
    refine ⟨fun em => run_checkKey (by unfold plainK underD; rw [hu]) em 9999 _ w, ?_⟩
    obtain ⟨r, h1, h2⟩ := findNow_ok (kc := .bool) (d := .bool) (vk := .bool k) (k := k) (fun a va hva => by
      have hva : [va] = [Value.bool a] := hva
      simp only [List.cons.injEq, and_true] at hva
      subst hva
      simp only [Instr.sameNow]; rfl) es ms 0 hes
    exact ⟨r, run_findKey hu h1 w, h2⟩
  · refine ⟨fun em => chkD_ok (g := g) (w := w) em 9992 8 kt _ vk (hc k) (Rp.toV (agg := true) hk) w, ?_⟩
    obtain ⟨r, h1, h2⟩ := findAsking_ok (P := P) (kt := kt) (vk := vk) (ka := true) (k := k) (w := w) (S := g.pr) (fun a va hva => by
      obtain ⟨b, hb, hv⟩ := he k a
      have := eqT_ok (P := P) (g := g) (w := w) 8 9992 _ _ _ _ _ _ hb (Rp.toV (agg := true) hk) (Rp.toV (agg := true) hva) w
      rw [hv] at this
      exact this) es ms 0 hes
    refine ⟨r, ?_, h2⟩
    have hd : ∃ d, P.underlying kt = some d ∧ ((∃ fs, d = .struct fs) ∨ ∃ n e, d = .array n e) := by
      unfold aggOk isAggT underD at hag
      cases hu : P.underlying kt with
      | none => rw [hu] at hag; simp at hag
      | some d =>
        rw [hu] at hag
        refine ⟨d, rfl, ?_⟩
        cases d <;> simp at hag ⊢
    obtain ⟨d, hd, hs⟩ := hd
    cases ms with
    | nil =>
      have : Instr.findNow d vk [] 0 = some none := rfl
      rw [run_findKey hd this w]
      simp [Instr.findAsking] at h1
      rw [h1]
    | cons m ms =>
      obtain ⟨vs, rfl, _⟩ := hk
      have hn : Instr.findNow d (.agg vs.toArray) (m :: ms) 0 = none := by
        rcases hs with ⟨fs, rfl⟩ | ⟨n, e, rfl⟩ <;> simp [Instr.findNow, Instr.sameNow]
      simp only [Instr.findKey, Sem.run_bind, run_underlying hd, Result.andThen_ok, hn]
      exact h1

def MVRep (g : G) (w : World) (vm : Value) : MV → Prop
  | ⟨ka, kc, ea, ec, es⟩ => (vm = .map none ∧ es = []) ∨ ∃ (b : Nat) (ms : List MapEntry) (ck : Nat), vm = .map (some b) ∧ w.heap[b]? = some (.map ms.toArray ck) ∧ MapOk ms ck ∧ ms.length = es.length ∧
      ∀ (i : Nat) (x : kc.D × ec.D), es[i]? = some x → ∃ m, ms[i]? = some m ∧ vOf ka (Rp w g.pr kc x.1) m.key ∧ vOf ea (Rp w g.pr ec x.2) m.val
theorem mapOf_ok {g : G} {hp : Hp} {w : World} (hR : Rel g hp w) {m : DV} {vm : Value} {x : MV} (h : mapOf hp m = some x) (hm : Rep g w m vm) : MVRep g w vm x := by
  cases m with
  | per c a =>
    cases c with
    | mp ka kc ea ec =>
      obtain rfl := Option.some.inj h
      simp only [Rep] at hm
      obtain ⟨v, hv, hm⟩ := hm
      simp only [List.cons.injEq, and_true] at hv
      subst hv
      rcases hm with ⟨h1, h2⟩ | ⟨b, ms, ck, h1, _, h2⟩
      · exact .inl ⟨h1, h2⟩
      · exact .inr ⟨b, ms, ck, h1, h2⟩
    | _ => simp [mapOf] at h
  | map id =>
    simp only [Rep] at hm
    obtain ⟨b, hb, rfl⟩ := hm
    simp only [mapOf] at h
    cases hl : look hp id with
    | none => rw [hl] at h; simp at h
    | some zo =>
      obtain ⟨z, o⟩ := zo
      rw [hl] at h
      cases o with
      | mp ka kc ea ec es =>
        obtain rfl := Option.some.inj h
        obtain ⟨⟨ms, ck, h1, h2⟩, _⟩ := hR.at hl hb
        exact .inr ⟨b, ms, ck, rfl, h1, h2⟩
      | _ => simp at h
  | _ => simp [mapOf] at h

theorem Rel.nil {g : G} {w : World} (h : ∀ b, g.pr b → b < w.heap.size) : Rel g [] w :=
  ⟨fun i z o hi => by simp [look] at hi, fun i z o hi => by simp [look] at hi, fun i j oi oj b hi => by simp [look] at hi, fun i z o k b hi => by simp [look] at hi, h⟩

theorem lookupT_ok {P : Program} {g : G} {hp : Hp} {w : World} (hR : Rel g hp w) {t : TypeId} {m k : DV} {vm vk : Value} {ok : Bool} {d : DV} (h : (lookupT P hp t m k ok).Path d) (hm : Rep g w m vm) (hk : Rep g w k vk) :
    Gives P g w (Instr.lookup t vm vk ok) d := by
  have fin : ∀ (dv : DV) (v : Value) (b : DB), Rep g w dv v → Rep g w (okT ok dv b) (if ok then .tuple #[v, .bool b.v] else v) := by
    intro dv v b r
    cases ok
    · exact r
    · simp only [okT, Rep]
      exact ⟨[v, .bool b.v], rfl, RepL.cons r (RepL.cons (by simp [Rep]) RepL.nil)⟩
  unfold lookupT at h
  split at h
  · rename_i kt et hu
    split at h
    · rename_i z hz
      obtain ⟨zv, hzr, hzz⟩ := zeroV_ok hz
      split at h
      · split at h
        · rename_i hpk
          obtain ⟨kd, hkd⟩ : ∃ kd, P.underlying kt = some kd := by
            rcases plainK_ok hpk with ⟨q, hq⟩ | hq | hq <;> exact ⟨_, hq⟩
          simp only [Rep] at hm
          subst hm
          obtain rfl : d = _ := h
          refine ⟨_, ?_, fin z zv (.lit false) (hzz g w)⟩
          have hf : (Instr.findKey kt vk []).run P w = .ok none w := run_findKey hkd (by cases kd <;> rfl) w
          simp only [Instr.lookup, Sem.run_bind, run_under hu, Result.andThen_ok, Sem.run_pure, run_checkKey hpk true 9999 vk w, Array.isEmpty_empty, hf, hzr, DB.v]
        · exact h.elim
      · split at h
        · rename_i ka kc ea ec es hmo
          have hmap := mapOf_ok hR hmo hm
          simp only [MVRep] at hmap
          split at h
          · rename_i ks zs hks hzs hak hae
            split at h
            · rename_i kd ps1 zd ps2 h1 h2
              obtain ⟨hps, h⟩ := T.path_obs h
              obtain ⟨u, hko, h⟩ := T.path_bind h
              obtain rfl : d = _ := h
              have R0 : Rel g [] w := Rel.nil hR.prl
              have hkv : vOf ka (Rp w g.pr kc kd) vk := celD_vOf hks hk fun vs r => cod_ok R0 _ _ _ _ _ _ h1 (fun p hp => hps p (List.mem_append.2 (.inl hp))) r
              have hps2 : ∀ p ∈ ps2, p := fun p hp => hps p (List.mem_append.2 (.inr hp))
              have hzv : vOf ea (Rp w g.pr ec zd) zv := celD_vOf hzs (hzz g w) fun vs r => cod_ok R0 _ _ _ _ _ _ h2 hps2 r
              have res : ∀ (o : Option ec.D) (v : Value), (∀ x, o = some x → vOf ea (Rp w g.pr ec x) v) → (o = none → v = zv) → Rep g w (toV ea ec (o.getD zd)) v := by
                intro o v h1 h2
                cases o with
                | none => rw [h2 rfl]; exact Rp.toV hzv
                | some x => exact Rp.toV (h1 x rfl)
              rcases hmap with ⟨rfl, rfl⟩ | ⟨b, ms, ck, rfl, q1, q2, q3, q4⟩
              · obtain ⟨hck, r, hf, hr⟩ := findKey_ok (P := P) (g := g) (w := w) (ec := ec) hko hak hkv [] [] ⟨rfl, fun i x hi => by simp at hi⟩
                cases r with
                | some x => obtain ⟨j, vv⟩ := x; obtain ⟨_, ⟨x, hx, _⟩, _⟩ := hr; simp at hx
                | none =>
                  refine ⟨_, ?_, fin _ zv (.sym (getM kc.beq kd ([] : List (kc.D × ec.D))).isSome) (res _ zv (fun x hx => by simp [getM] at hx) (fun _ => rfl))⟩
                  simp only [Instr.lookup, Sem.run_bind, run_under hu, Result.andThen_ok, Sem.run_pure, hck, Array.isEmpty_empty, hf, hzr, DB.v, getM]
                  rfl
              · obtain ⟨hck, r, hf, hr⟩ := findKey_ok (P := P) (g := g) (w := w) (ec := ec) hko hak hkv es ms ⟨q3, fun i x hi => let ⟨m, m1, m2, _⟩ := q4 i x hi; ⟨m, m1, m2⟩⟩
                cases r with
                | some x =>
                  obtain ⟨j, vv⟩ := x
                  obtain ⟨_, ⟨x, e1, e2, e3, m', e4, e5⟩, _⟩ := hr
                  obtain ⟨m2, f1, _, f3⟩ := q4 _ _ e1
                  rw [e4] at f1
                  obtain rfl := Option.some.inj f1
                  rw [e3]
                  refine ⟨_, ?_, fin _ vv (.sym true) (res (some x.2) vv (fun y hy => by obtain rfl := Option.some.inj hy; rw [← e5]; exact f3) (by simp))⟩
                  simp only [Instr.lookup, Sem.run_bind, run_under hu, Result.andThen_ok, Sem.run_pure, run_getMap q1, hck, hf, hzr, DB.v]
                | none =>
                  obtain ⟨e1, _⟩ := hr
                  rw [e1]
                  refine ⟨_, ?_, fin _ zv (.sym false) (res none zv (by simp) (fun _ => rfl))⟩
                  simp only [Instr.lookup, Sem.run_bind, run_under hu, Result.andThen_ok, Sem.run_pure, run_getMap q1, hck, hf, hzr, DB.v]
            · exact h.elim
          · exact h.elim
        · split at h
          · have hpk : plainK P kt = true := by assumption
            obtain ⟨kd, hkd⟩ : ∃ kd, P.underlying kt = some kd := by
              rcases plainK_ok hpk with ⟨q, hq⟩ | hq | hq <;> exact ⟨_, hq⟩
            simp only [Rep] at hm
            obtain ⟨b, hb, rfl⟩ := hm
            split at h
            · rename_i z' es hl
              obtain ⟨⟨ms, ck, h1, h0, h2, h3⟩, _⟩ := hR.at hl hb
              obtain ⟨r, hr, hd⟩ := T.path_bind h
              have hf := findT_ok hkd hpk hk es ms 0 r h2 h3 hr
              cases r with
              | none =>
                obtain rfl : d = _ := hd
                refine ⟨_, ?_, fin z zv (.lit false) (hzz g w)⟩
                simp only [Instr.lookup, Sem.run_bind, run_under hu, Result.andThen_ok, Sem.run_pure, run_getMap h1, run_checkKey hpk _ 9999 vk w, run_findKey hkd hf w, hzr, DB.v]
              | some x =>
                obtain ⟨j, v⟩ := x
                obtain ⟨vv, a1, a2, _⟩ := hf
                obtain rfl : d = _ := hd
                refine ⟨_, ?_, fin v vv (.lit true) a2⟩
                simp only [Instr.lookup, Sem.run_bind, run_under hu, Result.andThen_ok, Sem.run_pure, run_getMap h1, run_checkKey hpk _ 9999 vk w, run_findKey hkd a1 w, DB.v]
            · exact h.elim
          · exact h.elim
    · exact h.elim
  · exact h.elim
end Go.DF

/- The engine, part 6c: parts of slices, arrays and strings; calls of functions that only read. -/
namespace Go.DF
universe u v
set_option linter.unusedSimpArgs false
set_option linter.unusedVariables false
variable [Fam]

omit [Fam] in
theorem dnI_v (n : DN) : (dnI n).v = n.v := by cases n <;> rfl
omit [Fam] in
theorem subN_v (a b : DN) : (subN a b).v = a.v - b.v := by
  unfold subN
  split <;> simp [DN.v]
omit [Fam] in
theorem cut3_ok {α : Type u} {l h : DI} {n : DN} {t : T α} {x : α} (hh : (cut3 l h n t).Path x) : (0 ≤ l.v ∧ l.v ≤ h.v ∧ h.v ≤ n.v) ∧ t.Path x := by
  unfold cut3 at hh
  split at hh
  · split at hh
    · rename_i h0 h1 h2
      exact ⟨⟨of_decide_eq_true h0, of_decide_eq_true h1, of_decide_eq_true h2⟩, hh⟩
    · exact hh.elim
  · exact hh

/-- A bound, as Go reads it. -/
structure Bnd (g : G) (w : World) (d : Option DV) (v : Option Value) : Prop where
  rep : ∀ e, d = some e → ∃ u, v = some u ∧ Rep g w e u
  none : d = none → v = none
theorem bnd_lo {g : G} {w : World} {d : Option DV} {v : Option Value} {l : DI} (h : Bnd g w d v) (hl : loI d = some l) : (v = none ∧ l.v = 0) ∨ ∃ k, v = some (.int k l.v) := by
  unfold loI at hl
  split at hl
  · obtain rfl := Option.some.inj hl
    exact .inl ⟨h.none rfl, rfl⟩
  · obtain rfl := Option.some.inj hl
    obtain ⟨u, rfl, r⟩ := h.rep _ rfl
    simp only [Rep] at r
    exact .inr ⟨_, by rw [r]⟩
  · simp at hl
theorem bnd_hi {g : G} {w : World} {d : Option DV} {v : Option Value} {n : DN} {l : DI} (h : Bnd g w d v) (hl : hiI n d = some l) : (v = none ∧ l.v = n.v) ∨ ∃ k, v = some (.int k l.v) := by
  unfold hiI at hl
  split at hl
  · obtain rfl := Option.some.inj hl
    exact .inl ⟨h.none rfl, dnI_v n⟩
  · obtain rfl := Option.some.inj hl
    obtain ⟨u, rfl, r⟩ := h.rep _ rfl
    simp only [Rep] at r
    exact .inr ⟨_, by rw [r]⟩
  · simp at hl
omit [Fam] in
theorem run_bounds {P : Program} {s : Bool} {len cap : Nat} {lo hi : Option Value} {l h : Int} (h1 : (lo = none ∧ l = 0) ∨ ∃ k, lo = some (.int k l)) (h2 : (hi = none ∧ h = len) ∨ ∃ k, hi = some (.int k h))
    (h0 : 0 ≤ l) (hlh : l ≤ h) (hc : h ≤ cap) (w : World) : (Instr.sliceBounds s len cap lo hi none).run P w = .ok (l.toNat, h.toNat, cap) w := by
  have hh : 0 ≤ h := by omega
  have hlh' : l ≤ (h.toNat : Int) := by omega
  rcases h1 with ⟨rfl, rfl⟩ | ⟨k, rfl⟩ <;> rcases h2 with ⟨rfl, rfl⟩ | ⟨k', rfl⟩ <;>
    simp_all [Instr.sliceBounds, Instr.sliceBound, asIntOf]

theorem sliceV_ok {P : Program} {g : G} {hp : Hp} {w : World} (hR : Rel g hp w) {t : TypeId} {x : DV} {vx : Value} {lo hi : Option DV} {vl vh : Option Value} {d : DV} (h : (sliceV P hp t x lo hi).Path d)
    (hx : Rep g w x vx) (hl : Bnd g w lo vl) (hh : Bnd g w hi vh) : Gives P g w (Instr.sliceAt t vx vl vh none) d := by
  unfold sliceV at h
  split at h <;> (try simp only [Rep] at hx)
  · rename_i s hu
    subst hx
    split at h
    · rename_i l hi' h1 h2
      obtain ⟨⟨k0, k1, k2⟩, h⟩ := cut3_ok h
      obtain rfl : d = _ := h
      have hn : (lenS s).v = s.v.size := by cases s <;> rfl
      have b1 := bnd_lo hl h1
      have b2 := bnd_hi hh h2
      rw [hn] at b2 k2
      refine ⟨.string (s.v.extract l.v.toNat hi'.v.toNat), ?_, ?_⟩
      · simp [Instr.sliceAt, Instr.slice, run_under hu, run_bounds b1 b2 k0 k1 k2]
      · cases l <;> cases hi' <;> cases s <;> simp [Rep, DI.v, DS.v]
    · exact h.elim
  · rename_i e p n hu
    split at h
    · rename_i l hi' s h1 h2 hs
      split at h
      · rename_i hsz
        have hsz := Nat.eq_of_beq_eq_true hsz
        obtain ⟨⟨k0, k1, k2⟩, h⟩ := cut3_ok h
        obtain rfl : d = _ := h
        have b1 := bnd_lo hl h1
        have b2 := bnd_hi hh h2
        rcases hx with ⟨q0, rfl, hn⟩ | ⟨b, o, cap, hb, hcap, rfl, ho, cs, t', fr, k3, k4⟩
        · have e1 : l.v = 0 := by omega
          have e2 : hi'.v = 0 := by omega
          rw [e1] at b1 k0 k1
          rw [e2] at b2 k1
          rw [hn] at b2
          refine ⟨.slice q0 0 0, ?_, ?_⟩
          · have := run_bounds (P := P) (s := true) (cap := 0) b1 b2 (by omega) (by omega) (by simp) w
            simp at this
            cases q0 <;> simp [Instr.sliceAt, Instr.slice, run_under hu, this, run_sizeD hs]
          · simp only [Rep]
            exact .inl ⟨q0, rfl, by rw [subN_v, natI_v, natI_v, e2, e1]; rfl⟩
        · have hb2 : (vh = none ∧ hi'.v = (n.v : Int)) ∨ ∃ k, vh = some (.int k hi'.v) := b2
          have hrun := run_bounds (P := P) (s := true) (cap := cap) b1 hb2 k0 k1 (by omega) w
          refine ⟨.slice (some (if cap = l.v.toNat then ⟨b, o, none⟩ else ⟨b, o + l.v.toNat * s, none⟩)) (hi'.v.toNat - l.v.toNat) (cap - l.v.toNat), ?_, ?_⟩
          · simp only [Instr.sliceAt, Instr.slice, Sem.run_bind, run_under hu, Result.andThen_ok, hrun, run_sizeD hs, Sem.run_pure, Option.map_some, addr_add]
            split <;> rfl
          · simp only [Rep]
            have hl' : l.v.toNat ≤ cap := by omega
            by_cases hc : cap = l.v.toNat
            · refine .inr ⟨b, o, 0, hb, by rw [subN_v, natI_v, natI_v]; omega, by rw [if_pos hc, subN_v, natI_v, natI_v, hc, Nat.sub_self], .inl rfl, cs, t', fr, k3, by omega⟩
            · have ho' : o = g.off p := by rcases ho with ho | ho <;> omega
              refine .inr ⟨b, o + l.v.toNat * s, cap - l.v.toNat, hb, by rw [subN_v, natI_v, natI_v]; omega, by rw [if_neg hc, subN_v, natI_v, natI_v], .inr ?_, cs, t', fr, k3, ?_⟩
              · rw [ho']
                simp only [G.off, DP.off, addN_v, natI_v, hsz, Nat.add_mul]; omega
              · rw [← hsz, Nat.add_assoc, ← Nat.add_mul]
                have : l.v.toNat + (cap - l.v.toNat) = cap := by omega
                rw [this]; exact k4
      · exact h.elim
    · exact h.elim
  · rename_i e c l0 hu
    obtain ⟨l1, hl1⟩ : ∃ l1 : List c.D, l1 = l0 := ⟨l0, rfl⟩
    subst hl1
    obtain ⟨v', hv', hx⟩ := hx
    simp only [List.cons.injEq, and_true] at hv'
    subst hv'
    split at h
    · rename_i l hi' s h1 h2 hs
      split at h
      · rename_i hsz
        have hsz := Nat.eq_of_beq_eq_true hsz
        obtain ⟨⟨k0, k1, k2⟩, h⟩ := cut3_ok h
        obtain rfl : d = _ := h
        simp only [DN.v] at k2
        have b1 := bnd_lo hl h1
        have b2 := bnd_hi hh h2
        simp only [DN.v] at b2
        have hlen : (List.take (hi'.v.toNat - l.v.toNat) (List.drop l.v.toNat l1)).length = hi'.v.toNat - l.v.toNat := by
          skip
          rw [List.length_take, List.length_drop]; omega
        have hpart : partL l1 (natI l) (subN (natI hi') (natI l)) = List.take (hi'.v.toNat - l.v.toNat) (List.drop l.v.toNat l1) := by
          rw [partL_eq, subN_v, natI_v, natI_v]
        rcases hx with ⟨q0, rfl, hn⟩ | ⟨b, o, cap, cs, t', fr, rfl, k3, k4, k5, k6, k7⟩
        · have hn' : List.length l1 = 0 := by rw [hn]; rfl
          rw [hn'] at b2 k2
          have e1 : l.v = 0 := by omega
          have e2 : hi'.v = 0 := by omega
          rw [e1] at b1 k0 k1
          rw [e2] at b2 k1
          refine ⟨.slice q0 0 0, ?_, ?_⟩
          · have := run_bounds (P := P) (s := true) (cap := 0) b1 b2 (by omega) (by omega) (by simp) w
            simp at this
            simp [Instr.sliceAt, Instr.slice, run_under hu, this, run_sizeD hs]
          · simp only [Rep]
            exact ⟨_, rfl, .inl ⟨q0, rfl, by rw [hpart, e1, e2]; simp⟩⟩
        · have hb2 : (vh = none ∧ hi'.v = ((List.length l1 : Nat) : Int)) ∨ ∃ k, vh = some (.int k hi'.v) := b2
          have hrun := run_bounds (P := P) (s := true) (cap := cap) b1 hb2 k0 k1 (by omega) w
          refine ⟨.slice (some (if cap = l.v.toNat then ⟨b, o, none⟩ else ⟨b, o + l.v.toNat * s, none⟩)) (hi'.v.toNat - l.v.toNat) (cap - l.v.toNat), ?_, ?_⟩
          · simp only [Instr.sliceAt, Instr.slice, Sem.run_bind, run_under hu, Result.andThen_ok, hrun, run_sizeD hs, Sem.run_pure, Option.map_some, addr_add]
            split <;> rfl
          · simp only [Rep]
            rw [hpart]
            refine ⟨_, rfl, .inr ?_⟩
            by_cases hc : cap = l.v.toNat
            · rw [if_pos hc]
              refine ⟨b, o, cap - l.v.toNat, cs, t', fr, by rw [hlen], by rw [hlen]; omega, k4, k5, by rw [hc, Nat.sub_self]; omega, fun i a hi => ?_⟩
              have := lt_get hi
              rw [hlen] at this
              omega
            · rw [if_neg hc]
              refine ⟨b, o + l.v.toNat * s, cap - l.v.toNat, cs, t', fr, by rw [hlen], by rw [hlen]; omega, k4, k5, ?_, fun i a hi => ?_⟩
              · rw [← hsz, Nat.add_assoc, ← Nat.add_mul]
                have : l.v.toNat + (cap - l.v.toNat) = cap := by omega
                rw [this]; exact k6
              · have hlt := lt_get hi
                rw [hlen] at hlt
                rw [List.getElem?_take_of_lt hlt, List.getElem?_drop] at hi
                have := k7 _ a hi
                rw [← hsz, Nat.add_assoc, ← Nat.add_mul]
                exact this
      · exact h.elim
    · exact h.elim
  · rename_i len e p hu
    obtain ⟨b, hb, rfl⟩ := hx
    split at h
    · rename_i l hi' s j z t' cs h1 h2 hs hj hlk
      split at h
      · rename_i hz hle
        have hz := Nat.eq_of_beq_eq_true hz
        have hle := Nat.le_of_ble_eq_true hle
        obtain ⟨⟨k0, k1, k2⟩, h⟩ := cut3_ok h
        obtain rfl : d = _ := h
        obtain ⟨b', hb', ⟨hba, vs, q1, q2, _⟩, _⟩ := hR.there hlk (fun h => h)
        rw [hb] at hb'; obtain rfl := Option.some.inj hb'
        have ho : g.off p = 0 := by
          have : p.off = 0 := by simp only [DP.off, hj, DN.v]; exact hz
          simp only [G.off, this, hba]
        have b1 := bnd_lo hl h1
        have b2 := bnd_hi hh h2
        simp only [DN.v] at b2 k2
        have hrun := run_bounds (P := P) (s := false) (cap := len) b1 b2 k0 k1 k2 w
        refine ⟨.slice (some (if len = l.v.toNat then ⟨b, 0, none⟩ else ⟨b, 0 + l.v.toNat * s, none⟩)) (hi'.v.toNat - l.v.toNat) (len - l.v.toNat), ?_, ?_⟩
        · simp only [Instr.sliceAt, Sem.run_bind, run_under hu, Result.andThen_ok, hrun, run_sizeD hs, Sem.run_pure, Instr.sureAddr, ho, addr_add]
        · have hsz : vs.length = cs.length := q2.length
          simp only [Rep]
          by_cases hc : len = l.v.toNat
          · refine .inr ⟨b, 0, 0, hb, by rw [subN_v, natI_v, natI_v]; omega, by rw [if_pos hc, subN_v, natI_v, natI_v, hc, Nat.sub_self], .inl rfl, _, _, _, q1, by simp⟩
          · refine .inr ⟨b, 0 + l.v.toNat * s, len - l.v.toNat, hb, by rw [subN_v, natI_v, natI_v]; omega, by rw [if_neg hc, subN_v, natI_v, natI_v], .inr ?_, _, _, _, q1, ?_⟩
            · simp only [G.off, DP.off, natI_v, hba]; omega
            · simp only [List.size_toArray, hsz]
              have e : l.v.toNat * s + (len - l.v.toNat) * s = len * s := by rw [← Nat.add_mul]; congr 1; omega
              omega
      · exact h.elim
    · exact h.elim
  · exact h.elim

theorem maxV_ok {P : Program} {g : G} {w : World} {x y d : DV} {vx vy : Value} {ts : Array TypeId} {ty : TypeId} (h : (maxV x y).Path d) (hx : Rep g w x vx) (hy : Rep g w y vy) :
    Gives P g w (Builtin.max_ ts ty #[vx, vy]) d := by
  unfold maxV at h
  split at h
  · rename_i k a k' b
    simp only [Rep] at hx hy
    subst hx hy
    obtain rfl : d = _ := h
    refine ⟨.int k (if a.v < b.v then b.v else a.v), by simp [Builtin.max_, Builtin.max2], ?_⟩
    cases a <;> cases b <;> rfl
  · exact h.elim
theorem minV_ok {P : Program} {g : G} {w : World} {x y d : DV} {vx vy : Value} {ts : Array TypeId} {ty : TypeId} (h : (minV x y).Path d) (hx : Rep g w x vx) (hy : Rep g w y vy) :
    Gives P g w (Builtin.min_ ts ty #[vx, vy]) d := by
  unfold minV at h
  split at h
  · rename_i k a k' b
    simp only [Rep] at hx hy
    subst hx hy
    obtain rfl : d = _ := h
    refine ⟨.int k (if b.v < a.v then b.v else a.v), by simp [Builtin.min_, Builtin.min2], ?_⟩
    cases a <;> cases b <;> rfl
  · exact h.elim


/-! ### bytes and strings -/
omit [Fam] in
theorem bytesS_foldl (l : List Int) : l.foldl (fun (r : ByteArray) n => r.push (UInt8.ofNat n.toNat)) ByteArray.empty = bytesS l := by
  have key : ∀ (l : List Int) (s : ByteArray), l.foldl (fun (r : ByteArray) n => r.push (UInt8.ofNat n.toNat)) s = ⟨s.data ++ (l.map fun n => UInt8.ofNat n.toNat).toArray⟩ := by
    intro l
    induction l with
    | nil => intro s; simp
    | cons x l ih =>
      intro s
      rw [List.foldl_cons, ih]
      congr 1
      apply Array.toList_inj.1
      simp [ByteArray.push]
  rw [key]
  simp [bytesS, ByteArray.empty, ByteArray.emptyWithCapacity]
  rfl
theorem elems_ints {w : World} {S : Nat → Prop} {k : IntKind} {vs : List Value} {o : Nat} {l : List Int} (h : Elems w S (.int k) vs o l) : (vs.drop o).take l.length = l.map (Value.int k) := by
  apply List.ext_getElem?
  intro i
  rw [List.getElem?_take, List.getElem?_map]
  split
  · rename_i hi
    have h1 := h i l[i] (List.getElem?_eq_getElem hi)
    have h1 : (vs.drop (o + i * 1)).take 1 = [Value.int k l[i]] := h1
    rw [List.getElem?_eq_getElem hi, List.getElem?_drop]
    have : ((vs.drop (o + i * 1)).take 1)[0]? = some (Value.int k l[i]) := by rw [h1]; rfl
    rw [List.getElem?_take_of_lt (by omega), List.getElem?_drop] at this
    simpa using this
  · rename_i hi
    rw [List.getElem?_eq_none (by omega)]; rfl
theorem Elems.part {w : World} {S : Nat → Prop} {c : CT} {vs : List Value} {o : Nat} {l : List c.D} (h : Elems w S c vs o l) (i n : Nat) : Elems w S c vs (o + i * c.size) ((l.drop i).take n) := by
  intro j a hj
  have hlt := lt_get hj
  simp only [List.length_take, List.length_drop] at hlt
  rw [List.getElem?_take_of_lt (by omega), List.getElem?_drop] at hj
  have := h _ a hj
  rw [Nat.add_assoc, ← Nat.add_mul]
  exact this
theorem bytesT_ok {P : Program} {g : G} {hp : Hp} {w : World} (hR : Rel g hp w) {s t : TypeId} {x : DV} {vx : Value} {d : DV} (h : (bytesT P hp s t x).Path d) (hx : Rep g w x vx) : Gives P g w (convert s t vx) d := by
  unfold bytesT at h
  split at h
  · rename_i e hs ht
    split at h
    · rename_i he hsz
      have fin : ∀ (a : Option Addr) (n c : Nat) (b : ByteArray), vx = .slice a n c → (Conv.bytesToString (.slice a n c)).run P w = .ok (.string b) w → (convert s t vx).run P w = .ok (.string b) w := by
        intro a n c b e1 e2
        subst e1
        rw [run_convert_bytes_string w s t e a n c hs he ht]; exact e2
      have cells : ∀ (b o cap : Nat) (vs : List Value) (t' : TypeId) (fr : Nat × Nat) (l : List Int) (n : Nat), l.length = n → w.heap[b]? = some (.cells vs.toArray t' fr) → o + n ≤ vs.length → Elems w g.pr (.int .u8) vs o l →
          (Conv.bytesToString (.slice (some ⟨b, o, none⟩) n cap)).run P w = .ok (.string (bytesS l)) w := by
        intro b o cap vs t' fr l n hn hb hle hel
        subst hn
        have e1 := elems_ints hel
        rw [run_bytesToString w _ _ cap l (by rw [← e1]; exact run_loadCells_at hb rfl (by simp; omega)), bytesS_foldl]
      split at h
      · obtain rfl : d = _ := h
        simp only [Rep] at hx
        exact ⟨.string ByteArray.empty, fin _ _ _ _ hx rfl, by simp [Rep, DS.v]⟩
      · rename_i l
        obtain rfl : d = _ := h
        simp only [Rep] at hx
        obtain ⟨v', hv', hx⟩ := hx
        simp only [List.cons.injEq, and_true] at hv'
        subst hv'
        rcases hx with ⟨q0, hv, rfl⟩ | ⟨b, o, cap, cs, t', fr, hv, k1, k2, k3, k4, k5⟩
        · exact ⟨.string (bytesS []), fin _ _ _ _ hv (by cases q0 <;> rfl), by simp only [Rep, DS.v]; rfl⟩
        · refine ⟨.string (bytesS l), fin _ _ _ _ hv (cells b o cap cs t' fr l _ rfl k3 ?_ k5), by simp [Rep, DS.v]⟩
          have k4 : o + cap * 1 ≤ cs.length := k4
          have k1 : List.length l ≤ cap := k1
          omega
      · rename_i p n
        split at h
        · rename_i z t0 l hsz' hfld hl
          obtain ⟨l1, hl1⟩ : ∃ l1 : List Int, l1 = l := ⟨l, rfl⟩
          subst hl1
          obtain ⟨hle, h⟩ := h
          have hle : p.idx.v + n.v ≤ List.length (α := Int) l1 := hle
          obtain rfl : d = _ := h
          have hsz' := Nat.eq_of_beq_eq_true hsz'
          have hfld := Nat.eq_of_beq_eq_true hfld
          simp only [Rep] at hx
          rcases hx with ⟨q0, rfl, hn⟩ | ⟨b, o, cap, hb, hcap, rfl, ho, cs', t', fr', k1, k2⟩
          · refine ⟨.string ByteArray.empty, fin _ _ _ _ rfl (by cases q0 <;> rfl), ?_⟩
            have e : partL l1 p.idx n = [] := by rw [partL_eq, hn]; rfl
            simp only [Rep, DS.v]
            show Value.string ByteArray.empty = Value.string (bytesS (partL l1 p.idx n))
            rw [e]; rfl
          · obtain ⟨⟨us, k3, _, _, k4⟩, _⟩ := hR.at hl hb
            have e := k1.symm.trans k3
            simp only [Option.some.injEq, Obj.cells.injEq] at e
            obtain ⟨rfl, rfl, rfl⟩ := e
            have hpl : (partL l1 p.idx n).length = n.v := by
              rw [partL_eq, List.length_take, List.length_drop]
              omega
            refine ⟨_, fin _ _ _ _ rfl (cells b o cap us t' _ (partL l1 p.idx n) n.v hpl k3 (by simp only [List.size_toArray, hsz'] at k2; omega) ?_), by simp [Rep, DS.v]⟩
            have k5 := k4.part p.idx.v n.v
            rw [partL_eq]
            have e1 : (CT.int .u8).size = 1 := rfl
            rw [e1] at k5
            by_cases hc : cap = 0
            · have : n.v = 0 := by omega
              intro i a hi; have h0 : i < (List.take (α := Int) n.v (List.drop p.idx.v l1)).length := lt_get (α := Int) hi
              rw [List.length_take] at h0; omega
            · have : o = g.off p := by rcases ho with h | h; exact absurd h hc; exact h
              rw [this]
              have e2 : g.off p = g.base p.id + p.idx.v * 1 := by simp only [G.off, DP.off, hsz', hfld]; omega
              rw [e2]; exact k5
        · exact h.elim
      · exact h.elim
    · exact h.elim
  · exact h.elim

/-! ### data as arguments -/
theorem size1 {w : World} {S : Nat → Prop} {c : CT} {a : c.D} {v : Value} (h : Rp w S c a [v]) : vOf false (Rp w S c a) v := h
theorem codCL_ok {g : G} {hp : Hp} {w : World} (hR : Rel g hp w) : ∀ (cs : List CT) (ds : List DV) (x : CLD cs) (ps : List Prop) (vs : List Value), codCL hp cs ds = some (x, ps) → (∀ p ∈ ps, p) → RepL g w ds vs → RepL g w (encCL cs x) vs
  | [], [], x, ps, vs, h, _, r => by simp only [RepL] at r; subst r; exact RepL.nil
  | [], _ :: _, x, ps, vs, h, _, _ => by simp [codCL] at h
  | _ :: _, [], x, ps, vs, h, _, _ => by simp [codCL] at h
  | c :: cs, d :: ds, x, ps, vs, h, hps, r => by
    simp only [codCL] at h
    split at h
    · rename_i a qs y rs h1 h2 h3
      have h := Option.some.inj h
      cases h
      simp only [RepL] at r
      obtain ⟨v, us, rfl, r1, r2⟩ := r
      refine RepL.cons (Rp.toV (agg := false) (cod_ok hR _ _ _ _ _ _ h2 (fun p hp => hps p (by simp [hp])) (RepL.cons r1 RepL.nil))) (codCL_ok hR cs ds y rs us h3 (fun p hp => hps p (by simp [hp])) r2)
    · simp at h
theorem AS.cod_ok {g : G} {hp : Hp} {w : World} (hR : Rel g hp w) {a : AS} {d : DV} {x : a.D} {ps : List Prop} {v : Value} (h : a.cod hp d = some (x, ps)) (hps : ∀ p ∈ ps, p) (r : Rep g w d v) : Rep g w (a.enc x) v := by
  cases a with
  | dat agg c =>
    cases agg with
    | true =>
      cases d with
      | agg cs =>
        have h : DF.cod hp fuelC c cs = some (x, ps) := h
        simp only [Rep] at r
        obtain ⟨vs, rfl, r, _⟩ := r
        exact Rp.toV (agg := true) ⟨vs, rfl, DF.cod_ok hR _ _ _ _ _ _ h hps r⟩
      | _ => exact absurd (show (none : Option (c.D × List Prop)) = some (x, ps) from h) (by simp)
    | false =>
      have h : (match Nat.beq c.size 1 with | true => DF.cod hp fuelC c [d] | false => none) = some (x, ps) := by cases d <;> exact h
      split at h
      · exact Rp.toV (agg := false) (DF.cod_ok hR _ _ _ _ _ _ h hps (RepL.cons r RepL.nil))
      · simp at h
  | fn f cap =>
    cases d with
    | func f' ds =>
      have h : (match Nat.beq f' f with | true => codCL hp cap ds | false => none) = some (x, ps) := h
      split at h
      · rename_i hf
        simp only [Rep] at r
        obtain ⟨vs, rfl, r⟩ := r
        simp only [AS.enc, Rep]
        exact ⟨vs, by rw [Nat.eq_of_beq_eq_true hf], codCL_ok hR cap ds x ps vs h hps r⟩
      · simp at h
    | _ => exact absurd (show (none : Option (CLD cap × List Prop)) = some (x, ps) from h) (by simp)
theorem codAL_ok {g : G} {hp : Hp} {w : World} (hR : Rel g hp w) : ∀ (s : List AS) (ds : List DV) (x : ALD s) (ps : List Prop) (vs : List Value), codAL hp s ds = some (x, ps) → (∀ p ∈ ps, p) → RepL g w ds vs → RepL g w (encAL s x) vs
  | [], [], x, ps, vs, h, _, r => by simp only [RepL] at r; subst r; exact RepL.nil
  | [], _ :: _, x, ps, vs, h, _, _ => by simp [codAL] at h
  | _ :: _, [], x, ps, vs, h, _, _ => by simp [codAL] at h
  | a :: s, d :: ds, x, ps, vs, h, hps, r => by
    simp only [codAL] at h
    split at h
    · rename_i y qs z rs h1 h2
      have h := Option.some.inj h
      cases h
      simp only [RepL] at r
      obtain ⟨v, us, rfl, r1, r2⟩ := r
      exact RepL.cons (AS.cod_ok hR h1 (fun p hp => hps p (by simp [hp])) r1) (codAL_ok hR s ds z rs us h2 (fun p hp => hps p (by simp [hp])) r2)
    · simp at h

/-! ### memory, lent -/
theorem lend_look : ∀ (hp : Hp) (i : Nat), look (lend hp) i = match look hp i with | some (z, o) => (if isRows o = true then some (z, o) else some (true, o)) | none => none
  | [], i => rfl
  | (j, (z, o)) :: r, i => by
    have ih := lend_look r i
    unfold lend
    cases hr : isRows o with
    | true =>
      simp only [look]
      cases Nat.beq j i with
      | true => simp [hr]
      | false => exact ih
    | false =>
      simp only [look]
      cases Nat.beq j i with
      | true => simp [hr]
      | false => exact ih
def lentG (g : G) (hp : Hp) : G := ⟨g.ρ, fun b => g.pr b ∨ ∃ i o, look hp i = some (false, o) ∧ isRows o = false ∧ g.ρ i = some b, g.base, g.sub⟩
theorem ext_lent (g : G) (hp : Hp) (w : World) : Ext g w (lentG g hp) w := ⟨fun _ _ h => h, fun _ h => .inl h, fun _ _ => rfl, fun _ _ _ => rfl, fun _ cs _ _ h => ⟨cs, h, rfl⟩⟩
omit [Fam] in
theorem Ext.fz {g g' : G} {w : World} (h1 : g'.ρ = g.ρ) (h2 : g'.base = g.base) (h3 : ∀ b, g.pr b → g'.pr b) : Ext g w g' w :=
  ⟨fun i b h => by rw [h1]; exact h, h3, fun _ _ => rfl, fun i b _ => by rw [h2], fun _ cs _ _ h => ⟨cs, h, rfl⟩⟩
theorem Rel.lend {g : G} {hp : Hp} {w : World} (h : Rel g hp w) : Rel (lentG g hp) (lend hp) w := by
  have get : ∀ {i z o}, look (DF.lend hp) i = some (z, o) → ∃ z', look hp i = some (z', o) ∧ (isRows o = true → z = z') ∧ (isRows o = false → z = true) := by
    intro i z o hi
    rw [lend_look] at hi
    cases hl : look hp i with
    | none => rw [hl] at hi; simp at hi
    | some zo =>
      obtain ⟨z', o'⟩ := zo
      rw [hl] at hi
      dsimp only at hi
      split at hi
      · rename_i hr
        simp only [Option.some.injEq, Prod.mk.injEq] at hi
        obtain ⟨rfl, rfl⟩ := hi
        exact ⟨_, rfl, fun _ => rfl, fun h => by rw [hr] at h; simp at h⟩
      · rename_i hr
        simp only [Option.some.injEq, Prod.mk.injEq] at hi
        obtain ⟨rfl, rfl⟩ := hi
        exact ⟨_, rfl, fun h => absurd h hr, fun _ => rfl⟩
  refine ⟨fun i z o hi => ?_, fun i z o hi hr => ?_, fun i j oi oj b hi hj hbi hbj => ?_, fun i z o k b hi hk hb => ?_, fun b hb => ?_⟩
  · obtain ⟨z', hl, h1, h2⟩ := get hi
    rcases h.obj i z' o hl with ⟨b, k1, k2, k3⟩ | ⟨k1, k2⟩
    · refine .inl ⟨b, k1, ORep.ext (ext_lent g hp w) rfl (fun k _ => ⟨rfl, fun _ _ => rfl⟩) k2, ?_⟩
      cases hr : isRows o with
      | true =>
        have e := h1 hr
        subst e
        have hz := h.rws i _ o hl hr
        subst hz
        refine ⟨?_, by simp⟩
        rintro (hb | ⟨i', o', hl', hr', hb'⟩)
        · exact k3.1 hb
        · have := h.inj i i' o o' b hl hl' k1 hb'
          subst this
          rw [hl] at hl'
          simp only [Option.some.injEq, Prod.mk.injEq, true_and] at hl'
          rw [hl'] at hr; rw [hr] at hr'; simp at hr'
      | false =>
        refine ⟨fun _ => h2 hr, fun _ => ?_⟩
        cases z' with
        | true => exact .inl (k3.2 rfl)
        | false => exact .inr ⟨i, o, hl, hr, k1⟩
    · exact .inr ⟨k1, k2⟩
  · obtain ⟨z', hl, h1, h2⟩ := get hi
    rw [h1 hr]; exact h.rws i z' o hl hr
  · obtain ⟨zi, hl, h1, h2⟩ := get hi
    obtain ⟨zj, hl', h1', h2'⟩ := get hj
    have ri : isRows oi = true := by cases hr : isRows oi with | true => rfl | false => have := h2 hr; simp at this
    have rj : isRows oj = true := by cases hr : isRows oj with | true => rfl | false => have := h2' hr; simp at this
    obtain rfl := h1 ri
    obtain rfl := h1' rj
    exact h.inj i j oi oj b hl hl' hbi hbj
  · obtain ⟨z', hl, h1, h2⟩ := get hi
    obtain ⟨k1, k2, k3, k4⟩ := h.sub i z' o k b hl hk hb
    refine ⟨k1, ?_, fun j oj hj => ?_, fun j z2 oj k' hj hk' hb' => ?_⟩
    · rintro (hb' | ⟨i', o', hl', hr', hb'⟩)
      · exact k2 hb'
      · exact k3 i' o' hl' hb'
    · obtain ⟨zj, hl', h1', h2'⟩ := get hj
      have rj : isRows oj = true := by cases hr : isRows oj with | true => rfl | false => have := h2' hr; simp at this
      obtain rfl := h1' rj
      exact k3 j oj hl'
    · obtain ⟨zj, hl', _, _⟩ := get hj
      exact k4 j zj oj k' hl' hk' hb'
  · rcases hb with hb | ⟨i, o, hl, hr, hb⟩
    · exact h.prl b hb
    · exact (h.at hl hb).1.lt

mutual
theorem flat_rep {g g' : G} {w w' : World} : ∀ (d : DV) (v : Value), idf d = true → noPer d = true → Rep g w d v → Rep g' w' d v
  | .bool _, _, _, _, r => by simpa only [Rep] using r
  | .int _ _, _, _, _, r => by simpa only [Rep] using r
  | .str _, _, _, _, r => by simpa only [Rep] using r
  | .ptr _, _, h, _, _ => by simp [idf] at h
  | .nilptr, _, _, _, r => by simpa only [Rep] using r
  | .slice _ _, _, h, _, _ => by simp [idf] at h
  | .nilslice, _, _, _, r => by simpa only [Rep] using r
  | .map _, _, h, _, _ => by simp [idf] at h
  | .nilmap, _, _, _, r => by simpa only [Rep] using r
  | .func f c, _, h, k, r => by
    simp only [Rep] at r ⊢
    obtain ⟨vs, h1, h2⟩ := r
    exact ⟨vs, h1, flatL_rep c vs (by simpa [idf] using h) (by simpa [noPer] using k) h2⟩
  | .nilfunc, _, _, _, r => by simpa only [Rep] using r
  | .nilif, _, _, _, r => by simpa only [Rep] using r
  | .agg c, _, h, k, r => by
    simp only [Rep] at r ⊢
    obtain ⟨vs, h1, h2, h3⟩ := r
    exact ⟨vs, h1, flatL_rep c vs (by simpa [idf] using h) (by simpa [noPer] using k) h2, h3⟩
  | .tup c, _, h, k, r => by
    simp only [Rep] at r ⊢
    obtain ⟨vs, h1, h2⟩ := r
    exact ⟨vs, h1, flatL_rep c vs (by simpa [idf] using h) (by simpa [noPer] using k) h2⟩
  | .per _ _, _, _, k, _ => by simp [noPer] at k
  | .pel _ _ _, _, _, k, _ => by simp [noPer] at k
  | .any, _, _, _, _ => by simp only [Rep]
theorem flatL_rep {g g' : G} {w w' : World} : ∀ (ds : List DV) (vs : List Value), idfL ds = true → noPerL ds = true → RepL g w ds vs → RepL g' w' ds vs
  | [], _, _, _, r => by simpa only [RepL] using r
  | d :: ds, vs, h, k, r => by
    simp only [RepL] at r ⊢
    obtain ⟨v, us, rfl, r1, r2⟩ := r
    have h' : idf d = true ∧ idfL ds = true := by
      cases hd : idf d <;> simp [idfL, hd] at h ⊢; exact h
    have k' : noPer d = true ∧ noPerL ds = true := by
      cases hd : noPer d <;> simp [noPerL, hd] at k ⊢; exact k
    exact ⟨v, us, rfl, flat_rep d v h'.1 k'.1 r1, flatL_rep ds us h'.2 k'.2 r2⟩
end
end Go.DF

/- The engine, part 6d: a silent operation, whichever it is. -/
namespace Go.DF
universe u v
set_option linter.unusedSimpArgs false
set_option linter.unusedVariables false
variable [Fam]

omit [Fam] in
theorem semAt_eq (r : Option Nat) (ρ : Operand → Value) {o : Oper} (h : ∀ c, o.op ≠ .defer c) : Oper.semAt r ρ o = execOp ρ o := by
  cases r with
  | none => exact Oper.semAt_none ρ o
  | some l => exact Oper.semAt_some l ρ o h
omit [Fam] in
theorem wpIn_intro {P : Program} {r : Option Nat} {o : Oper} {a : Act} {w : World} {next : Act → World → Prop} {Q : Exit → Act → World → Prop} {ev : Operand → Value} (ha : a.eval = ev) (hnd : ∀ c, o.op ≠ .defer c)
    (h : o.uponIn (fz r) 0 P a next Q ((execOp ev o).run P w)) : o.wpIn (fz r) 0 P a w next Q :=
  ⟨fun _ _ => trivial, by
    have e : (fz r).round = r := rfl
    rw [e, semAt_eq r _ hnd, ha]; exact h⟩
omit [Fam] in
theorem calls_in {P : Program} {r : Option Nat} {n : Nat} {f : FuncId} {args : Array Value} {w : World} {R : Ending → World → Prop} (h : Calls P f args w R) : CallsIn (fz r) n P f args w R :=
  ⟨trivial, fun cs _ => ((callsIn_wide (n := n)).2 h).2 cs (room_wide _)⟩
omit [Fam] in
theorem in_calls {P : Program} {n : Nat} {f : FuncId} {args : Array Value} {w : World} {R : Ending → World → Prop} (h : CallsIn (fz none) n P f args w R) : Calls P f args w R :=
  (callsIn_wide (n := n)).1 h
omit [Fam] in
theorem nodepth {r : Option Nat} {p : Prop} : (fz r).depth.isSome = true → p := fun h => by simp [fz] at h

/-- The operation runs, and what follows it may count on d in its slot. -/
def SOk (P : Program) (o : Oper) (ev : Operand → Value) (g : G) (w : World) (d : DV) : Prop :=
  ∀ (rd : Option Nat) (a : Act) (next : Act → World → Prop) (Q : Exit → Act → World → Prop), a.eval = ev → (∀ v w' g', Silent w w' → GX g w g' w' → Rep g' w' d v → next (a.put o.dst v) w') → o.wpIn (fz rd) 0 P a w next Q

theorem sok_gives' {P : Program} {o : Oper} {ev : Operand → Value} {g : G} {w : World} {d : DV} {s : Sem Value} (hnd : ∀ c, o.op ≠ .defer c) (hl : ∀ b, g.pr b → b < w.heap.size) (he : execOp ev o = (do pure (.value (← s)))) (h : Gives P g w s d) : SOk P o ev g w d := by
  intro rd a next Q ha hn
  obtain ⟨v, hv, hr⟩ := h
  refine wpIn_intro ha hnd ?_
  rw [he]
  simp only [Sem.run_bind, hv, Result.andThen_ok, Sem.run_pure, Oper.uponIn_value]
  exact hn v w g (Silent.refl w) (GX.refl hl) hr

theorem mapO_ok {g : G} {w : World} {lk : Operand → Option DV} {ev : Operand → Value} :
    ∀ {l : List Operand} {ds : List DV}, (∀ x, x ∈ l → ∀ d, lk x = some d → Rep g w d (ev x)) → mapO lk l = some ds → RepL g w ds (l.map ev)
  | [], ds, _, h => by simp [mapO] at h; subst h; exact RepL.nil
  | x :: l, ds, hlk, h => by
    unfold mapO at h
    split at h
    · rename_i d ds' h1 h2
      obtain rfl := Option.some.inj h
      exact RepL.cons (hlk _ (by simp) _ h1) (mapO_ok (fun x hx => hlk x (by simp [hx])) h2)
    · simp at h

theorem partsD_ok {g : G} {w : World} {lk : Operand → Option DV} {ev : Operand → Value} :
    ∀ {l : List (Nat × Operand)} {ps : List (Nat × DV)}, (∀ x, x ∈ l.map (·.2) → ∀ d, lk x = some d → Rep g w d (ev x)) → partsD lk l = some ps → ps.length = l.length ∧
      ∀ (k i : Nat) (e : DV), ps[k]? = some (i, e) → ∃ v, (l.map fun x => (x.1, ev x.2))[k]? = some (i, v) ∧ Rep g w e v
  | [], ps, _, h => by simp [partsD] at h; subst h; simp
  | (j, x) :: l, ps, hlk, h => by
    unfold partsD at h
    split at h
    · rename_i d ds' h1 h2
      obtain rfl := Option.some.inj h
      obtain ⟨hl, hr⟩ := partsD_ok (fun x hx => hlk x (by simp at hx ⊢; exact .inr hx)) h2
      refine ⟨by simp [hl], ?_⟩
      intro k i e hk
      cases k with
      | zero =>
        simp at hk
        obtain ⟨rfl, rfl⟩ := hk
        exact ⟨ev x, by simp, hlk _ (by simp) _ h1⟩
      | succ k => simpa using hr k i e (by simpa using hk)
    · simp at h

theorem sok_call {P : Program} {o : Oper} {ev : Operand → Value} {g : G} {w : World} {d : DV} {c : Call} {x : Operand} {f : FuncId} {cap : List Value}
    (ho : o.op = .call c) (hc : c.callee = .value x) (hx : ev x = .func (.func f) #[] cap.toArray) (hb : HasBody P f)
    (h : Calls P f (c.args.toList.map ev ++ cap).toArray w fun e w' => ∃ v g', e = .returned v ∧ Silent w w' ∧ GX g w g' w' ∧ Rep g' w' d v) : SOk P o ev g w d := by
  intro rd a next Q hae hn
  obtain ⟨fn, h1, h2, h3⟩ := hb
  have hrun : (execOp ev o).run P w = .ok (.enter f (c.args.toList.map ev ++ cap).toArray) w := by
    have e : #[] ++ c.args.map ev ++ cap.toArray = (c.args.toList.map ev ++ cap).toArray := by
      apply Array.toList_inj.1; simp
    simp only [execOp, ho, resolve, hc, hx, Deferred.ofValue, Sem.run_bind, Sem.run_pure, Result.andThen_ok, invoke, callFunc, run_program, h1, h2, h3, Bool.false_eq_true, if_false, e]
  refine wpIn_intro hae (fun c' hc' => by rw [ho] at hc'; cases hc') ?_
  rw [hrun, Oper.uponIn_enter]
  refine ⟨nodepth, calls_in (h.mono ?_)⟩
  rintro e w' ⟨v, g', rfl, hs, hx, hr⟩
  exact hn v w' g' hs hx hr

theorem asPtr_ok {g : G} {w : World} {x y : DV} {v : Value} (h : (asPtr x).Path y) (r : Rep g w x v) : Rep g w y v ∧ ∃ b o, v = .pointer (some ⟨b, o, none⟩) := by
  unfold asPtr at h
  split at h
  · obtain rfl : y = _ := h
    have r' := r
    simp only [Rep] at r'
    obtain ⟨b, _, rfl⟩ := r'
    exact ⟨r, _, _, rfl⟩
  · obtain rfl : y = _ := h
    have r' := r
    simp only [Rep] at r'
    obtain ⟨b, o, cs, t, fr, rfl, _⟩ := r'
    exact ⟨r, _, _, rfl⟩
  · rename_i c x
    obtain ⟨hs, h⟩ := h
    obtain rfl : y = _ := h
    simp only [Rep] at r
    obtain ⟨v', hv, r⟩ := r
    simp only [List.cons.injEq, and_true] at hv
    subst hv
    rcases r with ⟨_, rfl⟩ | ⟨a, b, o, cs, t, fr, rfl, rfl, h1, h2, h3, h4⟩
    · simp at hs
    · refine ⟨?_, b, o, rfl⟩
      simp only [Rep]
      exact ⟨b, o, cs, t, fr, rfl, h1, h2, h3, h4⟩
  · rename_i n a
    obtain ⟨hs, h⟩ := h
    obtain rfl : y = _ := h
    simp only [Rep] at r
    obtain ⟨v', hv, r⟩ := r
    simp only [List.cons.injEq, and_true] at hv
    subst hv
    obtain ⟨v', hv, r⟩ := Fam.opn _ _ _ _ _ r
    simp only [List.cons.injEq, and_true] at hv
    subst hv
    rcases r with ⟨_, e⟩ | ⟨x, b, o, cs, t, fr, e, rfl, h1, h2, h3, h4⟩
    · rw [e] at hs; simp at hs
    · refine ⟨?_, b, o, rfl⟩
      simp only [Rep]
      rw [e]
      exact ⟨b, o, cs, t, fr, rfl, h1, h2, h3, h4⟩
  · exact h.elim

theorem findCC_f {P : Program} : ∀ {l : List (CanC P)} {f : FuncId} {c : CanC P}, findCC l f = some c → c.f = f
  | [], _, _, h => by simp [findCC] at h
  | c0 :: r, f, c, h => by
    unfold findCC at h
    split at h
    · rename_i hb; obtain rfl := Option.some.inj h; exact Nat.eq_of_beq_eq_true hb
    · exact findCC_f h
theorem findC_f {P : Program} : ∀ {l : List (PureC P)} {f : FuncId} {c : PureC P}, findC l f = some c → c.f = f
  | [], _, _, h => by simp [findC] at h
  | c0 :: r, f, c, h => by
    unfold findC at h
    split at h
    · rename_i hb; obtain rfl := Option.some.inj h; exact Nat.eq_of_beq_eq_true hb
    · exact findC_f h

/-- A function that is known to write nothing: called with what stands for its data. -/
theorem callS_ok {P : Program} {ct : Cx P} {g : G} {hp : Hp} {w : World} (hR : Rel g hp w) {f : FuncId} {args : List DV} {vs : List Value} {d : DV} (h : (callS ct hp f args).Path d) (r : RepL g w args vs) :
    HasBody P f ∧ Calls P f vs.toArray w fun e w' => ∃ v g', e = .returned v ∧ Silent w w' ∧ GX g w g' w' ∧ Rep g' w' d v := by
  unfold callS at h
  split at h
  · rename_i c hc
    have hf : c.f = f := findC_f hc
    subst hf
    refine ⟨c.body, ?_⟩
    split at h
    · rename_i x ps hx
      obtain ⟨hps, h⟩ := T.path_obs h
      exact c.ok x d h g w vs (codAL_ok hR _ _ _ _ _ hx hps r) hR.prl
    · split at h
      · exact h.elim
      · split at h
        · rename_i x ps hx
          obtain ⟨hps, h⟩ := T.path_obs h
          obtain ⟨d', hd', h⟩ := T.path_bind h
          split at h
          · rename_i hflat
            obtain rfl : d = _ := h
            have hR' := hR.lend
            have r' := RepL.ext (ext_lent g hp w) _ _ r
            refine (c.ok x d hd' (lentG g hp) w vs (codAL_ok hR' _ _ _ _ _ hx hps r') hR'.prl).mono ?_
            rintro e w' ⟨v, g', rfl, hs, _, hr⟩
            unfold flatD at hflat
            split at hflat
            · rename_i hn
              exact ⟨v, g, rfl, hs, GX.refl (fun b hb => Nat.lt_of_lt_of_le (hR.prl b hb) hs.size), flat_rep d v hflat hn hr⟩
            · simp at hflat
          · exact h.elim
        · exact h.elim
  · exact h.elim

theorem evS_ok {P : Program} {ct : Cx P} {g : G} {hp : Hp} {w : World} {lk : Operand → Option DV} {ev : Operand → Value} {o : Oper} {d : DV}
    (hR : Rel g hp w) (hlk' : ∀ x, x ∈ o.op.operands.toList → ∀ d, lk x = some d → Rep g w d (ev x)) (h : (evS P ct hp lk o.op).Path d) : SOk P o ev g w d := by
  obtain ⟨dst, op, type, pos, after, guard⟩ := o
  dsimp only at h hlk'
  have hnd : ∀ c, op ≠ .defer c := fun c hc => by subst hc; unfold evS at h; exact h.elim
  have sok_gives := fun {s : Sem Value} {d : DV} (he : execOp ev ⟨dst, op, type, pos, after, guard⟩ = (do pure (.value (← s)))) (h : Gives P g w s d) => sok_gives' (o := ⟨dst, op, type, pos, after, guard⟩) hnd hR.prl he h
  unfold evS at h
  split at h
  · -- move
    rename_i x
    have h := T.path_opt h
    exact sok_gives (s := pure (ev x)) (by simp [execOp]) ⟨_, rfl, hlk' _ (by simp [Op.operands]) _ h⟩
  · rename_i x
    have h := T.path_opt h
    exact sok_gives (s := pure (ev x)) (by simp [execOp]) ⟨_, rfl, hlk' _ (by simp [Op.operands]) _ h⟩
  · -- pick
    rename_i c a b
    have key : ∀ bb : Bool, ev c = .bool bb → (bb = true → lk a = some d) → (bb = false → lk b = some d) → SOk P ⟨dst, .pick c a b, type, pos, after, guard⟩ ev g w d := by
      intro bb hc h1 h2
      refine sok_gives (s := pure (if bb then ev a else ev b)) (by simp [execOp, hc, asBool]) ⟨_, rfl, ?_⟩
      cases bb
      · simpa using hlk' _ (by simp [Op.operands]) _ (h2 rfl)
      · simpa using hlk' _ (by simp [Op.operands]) _ (h1 rfl)
    split at h
    · rename_i hc; have r := hlk' _ (by simp [Op.operands]) _ hc; simp only [Rep, DB.v] at r
      exact key true r (fun _ => T.path_opt h) (by simp)
    · rename_i hc; have r := hlk' _ (by simp [Op.operands]) _ hc; simp only [Rep, DB.v] at r
      exact key false r (by simp) (fun _ => T.path_opt h)
    · rename_i cc hc; have r := hlk' _ (by simp [Op.operands]) _ hc; simp only [Rep, DB.v] at r
      rcases h with ⟨hb, h⟩ | ⟨hb, h⟩
      · exact key cc r (fun _ => T.path_opt h) (by simp [hb])
      · exact key cc r (by simp [hb]) (fun _ => T.path_opt h)
    · exact h.elim
  · -- extract
    rename_i t i
    split at h
    · rename_i vs hv
      have r := hlk' _ (by simp [Op.operands]) _ hv
      simp only [Rep] at r
      obtain ⟨us, hu, r⟩ := r
      obtain ⟨v, hv', hr⟩ := r.get (T.path_opt h)
      exact sok_gives (s := Instr.extract (ev t) i) (by simp [execOp]) ⟨v, by simp [Instr.extract, hu, hv'], hr⟩
    · exact h.elim
  · -- fieldAddr
    rename_i s x f
    split at h
    · rename_i fs dx hu hp'
      have r := hlk' _ (by simp [Op.operands]) _ hp'
      split at h
      · rename_i fd hf
        split at h
        · rename_i n hn
          split at h
          · exact h.elim
          · rename_i hn0
            have hn0 : n ≠ 0 := Nat.ne_of_beq_eq_false hn0
            obtain ⟨y, hy, h⟩ := T.path_bind h
            obtain ⟨ry, _⟩ := asPtr_ok hy r
            split at h
            · rename_i p
              obtain rfl : d = _ := h
              simp only [Rep] at ry
              obtain ⟨b, hb, hv⟩ := ry
              refine sok_gives (s := Instr.fieldAt s (ev x) f) (by simp [execOp]) ⟨.pointer (some ⟨b, g.off p + fd.offset, none⟩), ?_, ?_⟩
              · simp [Instr.fieldAt, run_under hu, hf, hv, Instr.sureAddr, fieldPlace, run_sizeD hn, hn0, addr_add]
              · simp only [Rep]
                exact ⟨b, hb, by simp [G.off, DP.off, Nat.add_assoc]⟩
            · rename_i c a o
              obtain rfl : d = _ := h
              simp only [Rep] at ry
              obtain ⟨b, o', cs, t, fr, hv, h1, h2, h3, h4⟩ := ry
              refine sok_gives (s := Instr.fieldAt s (ev x) f) (by simp [execOp]) ⟨.pointer (some ⟨b, o' + o + fd.offset, none⟩), ?_, ?_⟩
              · simp [Instr.fieldAt, run_under hu, hf, hv, Instr.sureAddr, fieldPlace, run_sizeD hn, hn0, addr_add]
              · simp only [Rep]
                exact ⟨b, o', cs, t, fr, by rw [Nat.add_assoc], h1, h2, h3, h4⟩
            · exact h.elim
        · exact h.elim
      · exact h.elim
    · exact h.elim
  · -- load
    rename_i t x
    split at h
    · rename_i dx hp'
      have r := hlk' _ (by simp [Op.operands]) _ hp'
      obtain ⟨y, hy, h⟩ := T.path_bind h
      obtain ⟨ry, _⟩ := asPtr_ok hy r
      obtain ⟨b, o, u, hv, hl, hr⟩ := loadT_ok (P := P) hR ry h
      exact sok_gives (s := Instr.loadAt t (ev x)) (by simp [execOp]) ⟨u, by simp [Instr.loadAt, hv, Instr.sureAddr, hl], hr⟩
    · exact h.elim
  · -- field
    rename_i t x f
    split at h
    · rename_i fs cs hu hx
      have r := hlk' _ (by simp [Op.operands]) _ hx
      simp only [Rep] at r
      obtain ⟨us, hv, r, r1⟩ := r
      split at h
      · rename_i fd hf
        obtain ⟨v, hv', hr⟩ := partO_ok r r1 (T.path_opt h)
        exact sok_gives (s := Instr.field t (ev x) f) (by simp [execOp]) ⟨v, by simp [Instr.field, run_under hu, hf, hv, asAgg, hv'], hr⟩
      · exact h.elim
    · exact h.elim
  · -- index
    rename_i t x i
    split at h
    · rename_i dx di hx hi
      exact sok_gives (s := Instr.index t (ev x) (ev i)) (by simp [execOp]) (indexV_ok h (hlk' _ (by simp [Op.operands]) _ hx) (hlk' _ (by simp [Op.operands]) _ hi))
    · exact h.elim
  · -- indexAddr
    rename_i t x i
    split at h
    · rename_i dx di hx hi
      exact sok_gives (s := Instr.indexAt t (ev x) (ev i)) (by simp [execOp]) (indexAddrV_ok h (hlk' _ (by simp [Op.operands]) _ hx) (hlk' _ (by simp [Op.operands]) _ hi))
    · exact h.elim
  · -- sliceToArrayPointer
    rename_i t x
    split at h
    · rename_i dx hx
      exact sok_gives (s := Instr.arrayAt t (ev x)) (by simp [execOp]) (arrPtrV_ok h (hlk' _ (by simp [Op.operands]) _ hx))
    · exact h.elim
  · -- binOp
    rename_i op t x y yt
    split at h
    · rename_i dx dy hx hy
      exact sok_gives (s := do eqGuard op t x y (ev x) (ev y); binOp op t (ev x) (ev y)) (by simp [execOp]) (binV_ok h (hlk' _ (by simp [Op.operands]) _ hx) (hlk' _ (by simp [Op.operands]) _ hy))
    · exact h.elim
  · -- unOp
    rename_i op t x
    split at h
    · rename_i dx hx
      exact sok_gives (s := Op.unary op (ev x)) (by simp [execOp]) (unV_ok h (hlk' _ (by simp [Op.operands]) _ hx))
    · exact h.elim
  · -- convert
    rename_i src dst x
    split at h
    · rename_i dx hx
      split at h
      · exact sok_gives (s := convert src dst (ev x)) (by simp [execOp]) (bytesT_ok hR h (hlk' _ (by simp [Op.operands]) _ hx))
      · exact sok_gives (s := convert src dst (ev x)) (by simp [execOp]) (convV_ok h (hlk' _ (by simp [Op.operands]) _ hx))
    · exact h.elim
  · -- build
    rename_i t parts
    split at h
    · rename_i ps hps
      obtain ⟨hl, hr⟩ := partsD_ok (fun x hx => hlk' x (by simpa [Op.operands] using hx)) hps
      refine sok_gives (s := Instr.build t (parts.map fun (i, x) => (i, ev x))) (by simp [execOp]) (buildD_ok (T.path_opt h) (by simpa using hl) ?_)
      intro k i e hk
      obtain ⟨v, hv, rv⟩ := hr k i e hk
      exact ⟨v, by simpa using hv, rv⟩
    · exact h.elim
  · -- nilCheck
    rename_i x
    split at h
    · rename_i f c hp'
      obtain rfl : d = _ := h
      have r := hlk' _ (by simp [Op.operands]) _ hp'
      have r' := r
      simp only [Rep] at r
      obtain ⟨us, hv, _⟩ := r
      refine sok_gives (s := pure (ev x)) ?_ ⟨_, rfl, r'⟩
      simp [execOp, hv]
    · rename_i dx _ hp'
      have r := hlk' _ (by simp [Op.operands]) _ hp'
      obtain ⟨ry, b, o, hv⟩ := asPtr_ok h r
      refine sok_gives (s := pure (ev x)) ?_ ⟨_, rfl, ry⟩
      simp [execOp, hv]
    · exact h.elim
  · -- makeFunc
    rename_i f first cap
    split at h
    · rename_i ds hf hc
      obtain rfl : d = _ := h
      refine sok_gives (s := Instr.makeFunc (.func f) (first.map ev) (cap.map ev)) (by simp [execOp]) ⟨_, rfl, ?_⟩
      simp only [Rep]
      refine ⟨cap.toList.map ev, ?_, mapO_ok (fun x hx => hlk' x (by simp at hx; simp [Op.operands, hx])) hc⟩
      have hf' : first = #[] := by apply Array.toList_inj.1; simpa using hf
      subst hf'
      simp only [Array.map_empty]
      congr 2
      apply Array.toList_inj.1
      simp
    · exact h.elim
  · -- call
    rename_i c
    split at h
    · rename_i hc
      split at h
      · rename_i t ts x xs ht hx
        split at h
        · rename_i dx hdx
          have hxm : x ∈ c.args := by rw [← Array.mem_toList_iff, hx]; simp
          have rx := hlk' x (by simp [Op.operands, Call.operands, hxm]) _ hdx
          have hc0 : c.argTypes[0]? = some t := by rw [← Array.getElem?_toList, ht]; rfl
          have hx0 : (c.args.map ev)[0]? = some (ev x) := by
            have : c.args[0]? = some x := by rw [← Array.getElem?_toList, hx]; rfl
            simp [this]
          refine sok_gives (s := Builtin.len_ c.argTypes type (c.args.map ev)) ?_ (lenV_ok hR h rx hc0 hx0)
          simp [execOp, resolve, hc, invoke, builtin]
        · exact h.elim
      · exact h.elim
    · rename_i hc
      split at h
      · rename_i x y hxy
        split at h
        · rename_i dx dy hdx hdy
          have hxm : x ∈ c.args := by rw [← Array.mem_toList_iff, hxy]; simp
          have hym : y ∈ c.args := by rw [← Array.mem_toList_iff, hxy]; simp
          have hargs : c.args.map ev = #[ev x, ev y] := by apply Array.toList_inj.1; simp [hxy]
          refine sok_gives (s := Builtin.max_ c.argTypes type (c.args.map ev)) ?_ (by rw [hargs]; exact maxV_ok h (hlk' x (by simp [Op.operands, Call.operands, hxm]) _ hdx) (hlk' y (by simp [Op.operands, Call.operands, hym]) _ hdy))
          simp [execOp, resolve, hc, invoke, builtin]
        · exact h.elim
      · exact h.elim
    · rename_i hc
      split at h
      · rename_i x y hxy
        split at h
        · rename_i dx dy hdx hdy
          have hxm : x ∈ c.args := by rw [← Array.mem_toList_iff, hxy]; simp
          have hym : y ∈ c.args := by rw [← Array.mem_toList_iff, hxy]; simp
          have hargs : c.args.map ev = #[ev x, ev y] := by apply Array.toList_inj.1; simp [hxy]
          refine sok_gives (s := Builtin.min_ c.argTypes type (c.args.map ev)) ?_ (by rw [hargs]; exact minV_ok h (hlk' x (by simp [Op.operands, Call.operands, hxm]) _ hdx) (hlk' y (by simp [Op.operands, Call.operands, hym]) _ hdy))
          simp [execOp, resolve, hc, invoke, builtin]
        · exact h.elim
      · exact h.elim
    · rename_i x hc
      split at h
      · rename_i f cap args hx ha
        have r := hlk' x (by simp [Op.operands, Call.operands, hc]) _ hx
        simp only [Rep] at r
        obtain ⟨vs, hv, rc⟩ := r
        obtain ⟨hb, hcl⟩ := callS_ok hR h ((mapO_ok (fun x hx => hlk' x (by simp at hx; simp [Op.operands, Call.operands, hx])) ha).append rc)
        exact sok_call rfl hc hv hb hcl
      · exact h.elim
    · exact h.elim
  · -- lookup
    rename_i t m k ok
    split at h
    · rename_i dm dk hm hk
      exact sok_gives (s := Instr.lookup t (ev m) (ev k) ok) (by simp [execOp]) (lookupT_ok hR h (hlk' _ (by simp [Op.operands]) _ hm) (hlk' _ (by simp [Op.operands]) _ hk))
    · exact h.elim
  · -- slice
    rename_i t x lo hi mx
    split at h
    · rename_i dx dlo dhi hx hlo hhi
      have bnd : ∀ (o : Option Operand) (e : Option DV), lkO lk o = some e → (∀ y, o = some y → ∀ d, lk y = some d → Rep g w d (ev y)) → Bnd g w e (o.map ev) := by
        intro o e he hy
        cases o with
        | none =>
          obtain rfl : e = none := by simpa [lkO] using he.symm
          exact ⟨fun e h => by simp at h, fun _ => rfl⟩
        | some y =>
          simp only [lkO] at he
          split at he
          · rename_i d hd
            obtain rfl : e = some d := by simpa using he.symm
            refine ⟨fun e h => ⟨ev y, rfl, ?_⟩, fun h => by simp at h⟩
            obtain rfl : d = e := by simpa using h
            exact hy y rfl d hd
          · simp at he
      refine sok_gives (s := Instr.sliceAt t (ev x) (lo.map ev) (hi.map ev) none) (by simp [execOp]) (sliceV_ok hR h (hlk' _ (by simp [Op.operands]) _ hx) (bnd lo _ hlo ?_) (bnd hi _ hhi ?_))
      · rintro y rfl d hd; exact hlk' y (by simp [Op.operands]) d hd
      · rintro y rfl d hd; exact hlk' y (by simp [Op.operands]) d hd
    · exact h.elim
  · exact h.elim

end Go.DF
