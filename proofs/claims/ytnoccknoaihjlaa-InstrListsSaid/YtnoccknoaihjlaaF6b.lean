import Derived.Test.YtnoccknoaihjlaaF6
set_option linter.unusedVariables false
set_option linter.unusedSimpArgs false
set_option linter.unnecessarySimpa false
/- The engine, part 6b: looking a key up in a map of data. -/
namespace Go.DF
universe u v
set_option linter.unusedSimpArgs false
set_option linter.unusedVariables false
variable [Fam]

/-- What the search for a key in a map of data found. -/
def FoundM {kc ec : CT} (k : kc.D) (es : List (kc.D × ec.D)) (ms : List MapEntry) (i : Nat) : Option (Nat × Value) → Prop
  | some (j, vv) => i ≤ j ∧ (∃ x, es[j - i]? = some x ∧ kc.beq k x.1 = true ∧ getM kc.beq k es = some x.2 ∧ ∃ m, ms[j - i]? = some m ∧ m.val = vv) ∧ ∀ v, putM kc.beq k v es = es.set (j - i) (k, v)
  | none => getM kc.beq k es = none ∧ ∀ v, putM kc.beq k v es = es ++ [(k, v)]
theorem FoundM.here {kc ec : CT} {k : kc.D} {x : kc.D × ec.D} {es : List (kc.D × ec.D)} {m : MapEntry} {ms : List MapEntry} {i : Nat} (h : kc.beq k x.1 = true) : FoundM k (x :: es) (m :: ms) i (some (i, m.val)) := by
  obtain ⟨a, b⟩ := x
  refine ⟨Nat.le_refl _, ⟨(a, b), by simp, h, ?_, m, by simp, rfl⟩, fun v => ?_⟩
  · simp only at h; simp [getM, h]
  · simp only at h; simp [putM, h]
theorem FoundM.next {kc ec : CT} {k : kc.D} {x : kc.D × ec.D} {es : List (kc.D × ec.D)} {m : MapEntry} {ms : List MapEntry} {i : Nat} {r : Option (Nat × Value)} (h : kc.beq k x.1 = false) (hr : FoundM k es ms (i + 1) r) : FoundM k (x :: es) (m :: ms) i r := by
  obtain ⟨a, b⟩ := x
  simp only at h
  cases r with
  | none => exact ⟨by simp [getM, h, hr.1], fun v => by simp [putM, h, hr.2 v]⟩
  | some z =>
    obtain ⟨j, vv⟩ := z
    obtain ⟨h1, ⟨y, h2, h3, h4, m', h5, h6⟩, h7⟩ := hr
    have e : j - i = (j - (i + 1)) + 1 := by omega
    refine ⟨by omega, ⟨y, by rw [e]; simpa using h2, h3, by simp [getM, h, h4], m', by rw [e]; simpa using h5, h6⟩, fun v => ?_⟩
    rw [e]
    simp [putM, h, h7 v]

/-- Keys that are coded so. -/
def KeysOf (w : World) (S : Nat → Prop) (ka : Bool) (kc : CT) {α : Type} (es : List (kc.D × α)) (ms : List MapEntry) : Prop :=
  ms.length = es.length ∧ ∀ (i : Nat) (x : kc.D × α), es[i]? = some x → ∃ m, ms[i]? = some m ∧ vOf ka (Rp w S kc x.1) m.key
theorem KeysOf.cons {w : World} {S : Nat → Prop} {ka : Bool} {kc : CT} {α : Type} {x : kc.D × α} {es : List (kc.D × α)} {ms : List MapEntry} (h : KeysOf w S ka kc (x :: es) ms) :
    ∃ m ms', ms = m :: ms' ∧ vOf ka (Rp w S kc x.1) m.key ∧ KeysOf w S ka kc es ms' := by
  obtain ⟨h1, h2⟩ := h
  cases ms with
  | nil => simp at h1
  | cons m ms =>
    obtain ⟨m', h3, h4⟩ := h2 0 x rfl
    simp at h3
    subst h3
    exact ⟨m, ms, rfl, h4, by simpa using h1, fun i y hi => by simpa using h2 (i + 1) y (by simpa using hi)⟩
theorem KeysOf.nil {w : World} {S : Nat → Prop} {ka : Bool} {kc : CT} {α : Type} {ms : List MapEntry} (h : KeysOf w S ka kc ([] : List (kc.D × α)) ms) : ms = [] := List.length_eq_zero_iff.1 h.1

theorem findAsking_ok {P : Program} {w : World} {S : Nat → Prop} {kt : TypeId} {vk : Value} {ka : Bool} {kc ec : CT} {k : kc.D}
    (heq : ∀ (a : kc.D) (va : Value), vOf ka (Rp w S kc a) va → (Op.equal kt vk va).run P w = .ok (kc.beq k a) w) :
    ∀ (es : List (kc.D × ec.D)) (ms : List MapEntry) (i : Nat), KeysOf w S ka kc es ms → ∃ r, (Instr.findAsking kt vk ms i).run P w = .ok r w ∧ FoundM k es ms i r
  | [], ms, i, h => by
    obtain rfl := h.nil
    exact ⟨none, rfl, rfl, fun v => rfl⟩
  | x :: es, ms, i, h => by
    obtain ⟨m, ms, rfl, h1, h2⟩ := h.cons
    obtain ⟨r, h3, h4⟩ := findAsking_ok heq es ms (i + 1) h2
    have he := heq _ _ h1
    cases hb : kc.beq k x.1 with
    | true =>
      rw [hb] at he
      exact ⟨_, by simp [Instr.findAsking, he], FoundM.here hb⟩
    | false =>
      rw [hb] at he
      exact ⟨r, by simp [Instr.findAsking, he, h3], FoundM.next hb h4⟩
theorem findNow_ok {w : World} {S : Nat → Prop} {d : TypeDesc} {vk : Value} {ka : Bool} {kc ec : CT} {k : kc.D}
    (heq : ∀ (a : kc.D) (va : Value), vOf ka (Rp w S kc a) va → Instr.sameNow d vk va = some (kc.beq k a)) :
    ∀ (es : List (kc.D × ec.D)) (ms : List MapEntry) (i : Nat), KeysOf w S ka kc es ms → ∃ r, Instr.findNow d vk ms i = some r ∧ FoundM k es ms i r
  | [], ms, i, h => by
    obtain rfl := h.nil
    exact ⟨none, rfl, rfl, fun v => rfl⟩
  | x :: es, ms, i, h => by
    obtain ⟨m, ms, rfl, h1, h2⟩ := h.cons
    obtain ⟨r, h3, h4⟩ := findNow_ok heq es ms (i + 1) h2
    have he := heq _ _ h1
    cases hb : kc.beq k x.1 with
    | true =>
      rw [hb] at he
      exact ⟨_, by simp [Instr.findNow, he], FoundM.here hb⟩
    | false =>
      rw [hb] at he
      exact ⟨r, by simp [Instr.findNow, he, h3], FoundM.next hb h4⟩

theorem keyOk_spec {P : Program} {kt : TypeId} {ka : Bool} {kc : CT} {u : Unit} (h : (keyOk P kt ka kc).Path u) : kc.flat = true ∧
    ((ka = false ∧ ((∃ q, P.underlying kt = some (.int q) ∧ kc = .int q) ∨ (P.underlying kt = some .string ∧ kc = .str) ∨ (P.underlying kt = some .bool ∧ kc = .bool))) ∨ (ka = true ∧ keyT P kt kc)) := by
  unfold keyOk at h
  cases hf : kc.flat with
  | false => rw [hf] at h; exact h.elim
  | true =>
    rw [hf] at h
    refine ⟨rfl, ?_⟩
    cases ka with
    | true => exact .inr ⟨rfl, h.1⟩
    | false =>
      refine .inl ⟨rfl, ?_⟩
      dsimp only at h
      split at h
      · split at h
        · rename_i q q' _ h1 _ h2
          exact .inl ⟨_, ‹underD P kt = some (.int _)›, by rw [of_decide_eq_true h2]⟩
        · exact h.elim
      · rename_i h1; exact .inr (.inl ⟨h1, rfl⟩)
      · rename_i h1; exact .inr (.inr ⟨h1, rfl⟩)
      · exact h.elim
/-- What a key is asked for. -/
theorem findKey_ok {P : Program} {g : G} {w : World} {kt : TypeId} {vk : Value} {ka : Bool} {kc ec : CT} {k : kc.D} {u : Unit} (h : (keyOk P kt ka kc).Path u) (hag : aggOk P kt ka = true) (hk : vOf ka (Rp w g.pr kc k) vk)
    (es : List (kc.D × ec.D)) (ms : List MapEntry) (hes : KeysOf w g.pr ka kc es ms) :
    (∀ em, (Instr.checkKey em 10000 kt vk).run P w = .ok () w) ∧ ∃ r, (Instr.findKey kt vk ms).run P w = .ok r w ∧ FoundM k es ms 0 r := by
  obtain ⟨hf, ⟨rfl, ⟨q, hu, rfl⟩ | ⟨hu, rfl⟩ | ⟨hu, rfl⟩⟩ | ⟨rfl, hc, he⟩⟩ := keyOk_spec h
  · have hk : [vk] = [Value.int q k] := hk
    simp only [List.cons.injEq, and_true] at hk
    subst hk
    refine ⟨fun em => run_checkKey (by unfold plainK underD; rw [hu]) em 9999 _ w, ?_⟩
    obtain ⟨r, h1, h2⟩ := findNow_ok (kc := .int q) (d := .int q) (vk := .int q k) (k := k) (fun a va hva => by
      have hva : [va] = [Value.int q a] := hva
      simp only [List.cons.injEq, and_true] at hva
      subst hva
      simp [Instr.sameNow]; rfl) es ms 0 hes
    exact ⟨r, run_findKey hu h1 w, h2⟩
  · have hk : [vk] = [Value.string k] := hk
    simp only [List.cons.injEq, and_true] at hk
    subst hk
    refine ⟨fun em => run_checkKey (by unfold plainK underD; rw [hu]) em 9999 _ w, ?_⟩
    obtain ⟨r, h1, h2⟩ := findNow_ok (kc := .str) (d := .string) (vk := .string k) (k := k) (fun a va hva => by
      have hva : [va] = [Value.string a] := hva
      simp only [List.cons.injEq, and_true] at hva
      subst hva
      simp only [Instr.sameNow]
      exact congrArg some (beq_toListBytes k a)) es ms 0 hes
    exact ⟨r, run_findKey hu h1 w, h2⟩
  · have hk : [vk] = [Value.bool k] := hk
    simp only [List.cons.injEq, and_true] at hk
    subst hk
    refine ⟨fun em => run_checkKey (by unfold plainK underD; rw [hu]) em 9999 _ w, ?_⟩
    obtain ⟨r, h1, h2⟩ := findNow_ok (kc := .bool) (d := .bool) (vk := .bool k) (k := k) (fun a va hva => by
      have hva : [va] = [Value.bool a] := hva
      simp only [List.cons.injEq, and_true] at hva
      subst hva
      simp only [Instr.sameNow]; rfl) es ms 0 hes
    exact ⟨r, run_findKey hu h1 w, h2⟩
  · refine ⟨fun em => chkD_ok (g := g) (w := w) em 9992 8 kt _ vk (hc k) (Rp.toV (agg := true) hk) w, ?_⟩
    obtain ⟨r, h1, h2⟩ := findAsking_ok (P := P) (kt := kt) (vk := vk) (ka := true) (k := k) (w := w) (S := g.pr) (fun a va hva => by
      obtain ⟨b, hb, hv⟩ := he k a
      have := eqT_ok (P := P) (g := g) (w := w) 8 9992 _ _ _ _ _ _ hb (Rp.toV (agg := true) hk) (Rp.toV (agg := true) hva) w
      rw [hv] at this
      exact this) es ms 0 hes
    refine ⟨r, ?_, h2⟩
    have hd : ∃ d, P.underlying kt = some d ∧ ((∃ fs, d = .struct fs) ∨ ∃ n e, d = .array n e) := by
      unfold aggOk isAggT underD at hag
      cases hu : P.underlying kt with
      | none => rw [hu] at hag; simp at hag
      | some d =>
        rw [hu] at hag
        refine ⟨d, rfl, ?_⟩
        cases d <;> simp at hag ⊢
    obtain ⟨d, hd, hs⟩ := hd
    cases ms with
    | nil =>
      have : Instr.findNow d vk [] 0 = some none := rfl
      rw [run_findKey hd this w]
      simp [Instr.findAsking] at h1
      rw [h1]
    | cons m ms =>
      obtain ⟨vs, rfl, _⟩ := hk
      have hn : Instr.findNow d (.agg vs.toArray) (m :: ms) 0 = none := by
        rcases hs with ⟨fs, rfl⟩ | ⟨n, e, rfl⟩ <;> simp [Instr.findNow, Instr.sameNow]
      simp only [Instr.findKey, Sem.run_bind, run_underlying hd, Result.andThen_ok, hn]
      exact h1

def MVRep (g : G) (w : World) (vm : Value) : MV → Prop
  | ⟨ka, kc, ea, ec, es⟩ => (vm = .map none ∧ es = []) ∨ ∃ (b : Nat) (ms : List MapEntry) (ck : Nat), vm = .map (some b) ∧ w.heap[b]? = some (.map ms.toArray ck) ∧ MapOk ms ck ∧ ms.length = es.length ∧
      ∀ (i : Nat) (x : kc.D × ec.D), es[i]? = some x → ∃ m, ms[i]? = some m ∧ vOf ka (Rp w g.pr kc x.1) m.key ∧ vOf ea (Rp w g.pr ec x.2) m.val
theorem mapOf_ok {g : G} {hp : Hp} {w : World} (hR : Rel g hp w) {m : DV} {vm : Value} {x : MV} (h : mapOf hp m = some x) (hm : Rep g w m vm) : MVRep g w vm x := by
  cases m with
  | per c a =>
    cases c with
    | mp ka kc ea ec =>
      obtain rfl := Option.some.inj h
      simp only [Rep] at hm
      obtain ⟨v, hv, hm⟩ := hm
      simp only [List.cons.injEq, and_true] at hv
      subst hv
      rcases hm with ⟨h1, h2⟩ | ⟨b, ms, ck, h1, _, h2⟩
      · exact .inl ⟨h1, h2⟩
      · exact .inr ⟨b, ms, ck, h1, h2⟩
    | _ => simp [mapOf] at h
  | map id =>
    simp only [Rep] at hm
    obtain ⟨b, hb, rfl⟩ := hm
    simp only [mapOf] at h
    cases hl : look hp id with
    | none => rw [hl] at h; simp at h
    | some zo =>
      obtain ⟨z, o⟩ := zo
      rw [hl] at h
      cases o with
      | mp ka kc ea ec es =>
        obtain rfl := Option.some.inj h
        obtain ⟨⟨ms, ck, h1, h2⟩, _⟩ := hR.at hl hb
        exact .inr ⟨b, ms, ck, rfl, h1, h2⟩
      | _ => simp at h
  | _ => simp [mapOf] at h

theorem Rel.nil {g : G} {w : World} (h : ∀ b, g.pr b → b < w.heap.size) : Rel g [] w :=
  ⟨fun i z o hi => by simp [look] at hi, fun i z o hi => by simp [look] at hi, fun i j oi oj b hi => by simp [look] at hi, fun i z o k b hi => by simp [look] at hi, h⟩

theorem lookupT_ok {P : Program} {g : G} {hp : Hp} {w : World} (hR : Rel g hp w) {t : TypeId} {m k : DV} {vm vk : Value} {ok : Bool} {d : DV} (h : (lookupT P hp t m k ok).Path d) (hm : Rep g w m vm) (hk : Rep g w k vk) :
    Gives P g w (Instr.lookup t vm vk ok) d := by
  have fin : ∀ (dv : DV) (v : Value) (b : DB), Rep g w dv v → Rep g w (okT ok dv b) (if ok then .tuple #[v, .bool b.v] else v) := by
    intro dv v b r
    cases ok
    · exact r
    · simp only [okT, Rep]
      exact ⟨[v, .bool b.v], rfl, RepL.cons r (RepL.cons (by simp [Rep]) RepL.nil)⟩
  unfold lookupT at h
  split at h
  · rename_i kt et hu
    split at h
    · rename_i z hz
      obtain ⟨zv, hzr, hzz⟩ := zeroV_ok hz
      split at h
      · split at h
        · rename_i hpk
          obtain ⟨kd, hkd⟩ : ∃ kd, P.underlying kt = some kd := by
            rcases plainK_ok hpk with ⟨q, hq⟩ | hq | hq <;> exact ⟨_, hq⟩
          simp only [Rep] at hm
          subst hm
          obtain rfl : d = _ := h
          refine ⟨_, ?_, fin z zv (.lit false) (hzz g w)⟩
          have hf : (Instr.findKey kt vk []).run P w = .ok none w := run_findKey hkd (by cases kd <;> rfl) w
          simp only [Instr.lookup, Sem.run_bind, run_under hu, Result.andThen_ok, Sem.run_pure, run_checkKey hpk true 9999 vk w, Array.isEmpty_empty, hf, hzr, DB.v]
        · exact h.elim
      · split at h
        · rename_i ka kc ea ec es hmo
          have hmap := mapOf_ok hR hmo hm
          simp only [MVRep] at hmap
          split at h
          · rename_i ks zs hks hzs hak hae
            split at h
            · rename_i kd ps1 zd ps2 h1 h2
              obtain ⟨hps, h⟩ := T.path_obs h
              obtain ⟨u, hko, h⟩ := T.path_bind h
              obtain rfl : d = _ := h
              have R0 : Rel g [] w := Rel.nil hR.prl
              have hkv : vOf ka (Rp w g.pr kc kd) vk := celD_vOf hks hk fun vs r => cod_ok R0 _ _ _ _ _ _ h1 (fun p hp => hps p (List.mem_append.2 (.inl hp))) r
              have hps2 : ∀ p ∈ ps2, p := fun p hp => hps p (List.mem_append.2 (.inr hp))
              have hzv : vOf ea (Rp w g.pr ec zd) zv := celD_vOf hzs (hzz g w) fun vs r => cod_ok R0 _ _ _ _ _ _ h2 hps2 r
              have res : ∀ (o : Option ec.D) (v : Value), (∀ x, o = some x → vOf ea (Rp w g.pr ec x) v) → (o = none → v = zv) → Rep g w (toV ea ec (o.getD zd)) v := by
                intro o v h1 h2
                cases o with
                | none => rw [h2 rfl]; exact Rp.toV hzv
                | some x => exact Rp.toV (h1 x rfl)
              rcases hmap with ⟨rfl, rfl⟩ | ⟨b, ms, ck, rfl, q1, q2, q3, q4⟩
              · obtain ⟨hck, r, hf, hr⟩ := findKey_ok (P := P) (g := g) (w := w) (ec := ec) hko hak hkv [] [] ⟨rfl, fun i x hi => by simp at hi⟩
                cases r with
                | some x => obtain ⟨j, vv⟩ := x; obtain ⟨_, ⟨x, hx, _⟩, _⟩ := hr; simp at hx
                | none =>
                  refine ⟨_, ?_, fin _ zv (.sym (getM kc.beq kd ([] : List (kc.D × ec.D))).isSome) (res _ zv (fun x hx => by simp [getM] at hx) (fun _ => rfl))⟩
                  simp only [Instr.lookup, Sem.run_bind, run_under hu, Result.andThen_ok, Sem.run_pure, hck, Array.isEmpty_empty, hf, hzr, DB.v, getM]
                  rfl
              · obtain ⟨hck, r, hf, hr⟩ := findKey_ok (P := P) (g := g) (w := w) (ec := ec) hko hak hkv es ms ⟨q3, fun i x hi => let ⟨m, m1, m2, _⟩ := q4 i x hi; ⟨m, m1, m2⟩⟩
                cases r with
                | some x =>
                  obtain ⟨j, vv⟩ := x
                  obtain ⟨_, ⟨x, e1, e2, e3, m', e4, e5⟩, _⟩ := hr
                  obtain ⟨m2, f1, _, f3⟩ := q4 _ _ e1
                  rw [e4] at f1
                  obtain rfl := Option.some.inj f1
                  rw [e3]
                  refine ⟨_, ?_, fin _ vv (.sym true) (res (some x.2) vv (fun y hy => by obtain rfl := Option.some.inj hy; rw [← e5]; exact f3) (by simp))⟩
                  simp only [Instr.lookup, Sem.run_bind, run_under hu, Result.andThen_ok, Sem.run_pure, run_getMap q1, hck, hf, hzr, DB.v]
                | none =>
                  obtain ⟨e1, _⟩ := hr
                  rw [e1]
                  refine ⟨_, ?_, fin _ zv (.sym false) (res none zv (by simp) (fun _ => rfl))⟩
                  simp only [Instr.lookup, Sem.run_bind, run_under hu, Result.andThen_ok, Sem.run_pure, run_getMap q1, hck, hf, hzr, DB.v]
            · exact h.elim
          · exact h.elim
        · split at h
          · have hpk : plainK P kt = true := by assumption
            obtain ⟨kd, hkd⟩ : ∃ kd, P.underlying kt = some kd := by
              rcases plainK_ok hpk with ⟨q, hq⟩ | hq | hq <;> exact ⟨_, hq⟩
            simp only [Rep] at hm
            obtain ⟨b, hb, rfl⟩ := hm
            split at h
            · rename_i z' es hl
              obtain ⟨⟨ms, ck, h1, h0, h2, h3⟩, _⟩ := hR.at hl hb
              obtain ⟨r, hr, hd⟩ := T.path_bind h
              have hf := findT_ok hkd hpk hk es ms 0 r h2 h3 hr
              cases r with
              | none =>
                obtain rfl : d = _ := hd
                refine ⟨_, ?_, fin z zv (.lit false) (hzz g w)⟩
                simp only [Instr.lookup, Sem.run_bind, run_under hu, Result.andThen_ok, Sem.run_pure, run_getMap h1, run_checkKey hpk _ 9999 vk w, run_findKey hkd hf w, hzr, DB.v]
              | some x =>
                obtain ⟨j, v⟩ := x
                obtain ⟨vv, a1, a2, _⟩ := hf
                obtain rfl : d = _ := hd
                refine ⟨_, ?_, fin v vv (.lit true) a2⟩
                simp only [Instr.lookup, Sem.run_bind, run_under hu, Result.andThen_ok, Sem.run_pure, run_getMap h1, run_checkKey hpk _ 9999 vk w, run_findKey hkd a1 w, DB.v]
            · exact h.elim
          · exact h.elim
    · exact h.elim
  · exact h.elim
end Go.DF
