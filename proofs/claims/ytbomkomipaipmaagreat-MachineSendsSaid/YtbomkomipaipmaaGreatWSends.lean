/- Layer 16 (machine): MachineSends, walked. -/
import Derived.Test.YtbomkomipaipmaaGreatVj
namespace Go.Proofs.YtbomkomipaipmaaGreat

section
variable {P : Program} {own : Own} {M : Mem} {η : AHeap} {n : Nat} {w : World}
theorem frzH_ob {F : Nat → Bool} {G : List Nat} {f b : Nat} (h : OB own (frzH F G f η) b) : OB own η b := by
  obtain ⟨r, p, o, h1, h2⟩ := h
  obtain ⟨_, o0, h3, _⟩ := frzH_some h1
  exact ⟨r, p, o0, h3, h2⟩

/-- ahead of a call -/
theorem AC.freezeP (F : Nat → Bool) (G : List Nat) (fu : Nat) {f : FuncId} {args : List AVal} {K : AVal → AHeap → Nat → Prop} (h : AC P f (args.map (frz F η fu)) (frzH F G fu η) n K) : AC P f args η n K := by
  intro own M w vals h1 h2 h3
  refine (h own (frzM own M F η w) w vals (frzH_st h1 F G fu) (by simpa using h2) fun i c hi => ?_).mono ?_
  · rw [List.getElem?_map] at hi
    cases hx : args[i]? with
    | none => rw [hx] at hi; simp at hi
    | some c0 => rw [hx] at hi; simp at hi; subst hi; exact frz_sound h1 F fu c0 _ (h3 i c0 hx)
  · rintro e w' ⟨u, rfl, v, η', n', own', M', hK, a1, a2, a3, a4, a5, a6, a7⟩
    exact ⟨u, rfl, v, η', n', own', M', hK, a1, a2, a3, a4, Mem.le_trans (frzM_le F) a5, a6.weaken fun b hb => frzH_ob hb, fun b hb => (a7.1 b hb).imp frzH_ob _root_.id, fun b hb => (a7.2 b hb).elim (fun h => (frzM_or h).imp _root_.id Or.inl) fun h => Or.inr (h.imp frzH_ob _root_.id)⟩
theorem AC.freeze (F G : List Nat) (fu : Nat) {f : FuncId} {args : List AVal} {K : AVal → AHeap → Nat → Prop} (h : AC P f (args.map (frz (F.contains ·) η fu)) (frzH (F.contains ·) G fu η) n K) : AC P f args η n K := AC.freezeP _ G fu h
theorem ACK.freeze (F G : List Nat) (fu : Nat) {f : FuncId} {args : List AVal} {K : AVal → AHeap → Nat → Prop} {g : Tag K} (h : ACK P f (args.map (frz (F.contains ·) η fu)) (frzH (F.contains ·) G fu η) n K g) : ACK P f args η n K g := AC.freeze F G fu h
end

/-! ### Values seen as less -/
/-! ### What a function hands back, with all that it made as read only: then no number has been used -/
end Go.Proofs.YtbomkomipaipmaaGreat
namespace Go.Proofs.YtbomkomipaipmaaGreat
@[simp] theorem bytes54 : tbytes Tryz.prog 54 = some 24 := by kernel_rfl
@[simp] theorem elem57 : telem Tryz.prog 57 = some 54 := by kernel_rfl
@[simp] theorem hb25 : HB Tryz.prog 25 = true := by kernel_rfl
@[simp] theorem hb26 : HB Tryz.prog 26 = true := by kernel_rfl
@[simp] theorem ares6 (s : AState) : ares Tryz.prog Tryz.f6 s = resV Tryz.prog s (.tmp 4) := ares_one Tryz.results6 s
@[simp] theorem ares25 (s : AState) : ares Tryz.prog Tryz.f25 s = resV Tryz.prog s (.tmp 4) := ares_one Tryz.results25 s
@[simp] theorem ares26 (s : AState) : ares Tryz.prog Tryz.f26 s = resV Tryz.prog s (.tmp 4) := ares_one Tryz.results26 s
attribute [simp] Tryz.underlying0 Tryz.underlying1 Tryz.underlying2 Tryz.underlying3 Tryz.underlying4 Tryz.underlying5 Tryz.underlying6 Tryz.underlying7 Tryz.underlying8 Tryz.underlying9 Tryz.underlying10 Tryz.underlying11 Tryz.underlying12 Tryz.underlying13 Tryz.underlying14 Tryz.underlying15 Tryz.underlying16 Tryz.underlying17 Tryz.underlying18 Tryz.underlying19 Tryz.underlying20 Tryz.underlying21 Tryz.underlying22 Tryz.underlying23 Tryz.underlying24 Tryz.underlying25 Tryz.underlying26 Tryz.underlying27 Tryz.underlying28 Tryz.underlying29 Tryz.underlying30 Tryz.underlying31 Tryz.underlying32 Tryz.underlying33 Tryz.underlying34 Tryz.underlying35 Tryz.underlying36 Tryz.underlying37 Tryz.underlying38 Tryz.underlying39 Tryz.underlying40 Tryz.underlying41 Tryz.underlying42 Tryz.underlying43 Tryz.underlying44 Tryz.underlying45 Tryz.underlying46 Tryz.underlying47 Tryz.underlying48 Tryz.underlying49 Tryz.underlying50 Tryz.underlying51 Tryz.underlying52 Tryz.underlying53 Tryz.underlying54 Tryz.underlying55 Tryz.underlying56 Tryz.underlying57 Tryz.underlying58 Tryz.underlying59 Tryz.underlying60 Tryz.underlying61 Tryz.underlying62 Tryz.underlying63 Tryz.underlying64 Tryz.underlying65 Tryz.underlying66 Tryz.underlying67 Tryz.underlying68 Tryz.underlying69 Tryz.underlying70 Tryz.underlying71 Tryz.underlying72 Tryz.underlying73 Tryz.underlying74 Tryz.underlying75 Tryz.underlying76 Tryz.underlying77 Tryz.underlying78 Tryz.underlying79 Tryz.underlying80 Tryz.underlying81 Tryz.underlying82 Tryz.underlying83 Tryz.underlying84 Tryz.underlying85 Tryz.underlying86 Tryz.underlying87 Tryz.underlying88 Tryz.underlying89 Tryz.underlying90 Tryz.underlying91 Tryz.underlying92 Tryz.underlying93 Tryz.underlying94 Tryz.underlying95 Tryz.underlying96 Tryz.underlying97 Tryz.underlying98 Tryz.underlying99 Tryz.underlying100 Tryz.underlying101 Tryz.underlying102 Tryz.underlying103 Tryz.underlying104 Tryz.underlying105 Tryz.underlying106 Tryz.underlying107 Tryz.underlying108 Tryz.underlying109 Tryz.underlying110 Tryz.underlying111 Tryz.underlying112 Tryz.underlying113 Tryz.underlying114 Tryz.underlying115 Tryz.underlying116 Tryz.underlying117 Tryz.underlying118 Tryz.underlying119 Tryz.underlying120 Tryz.underlying121 Tryz.underlying122 Tryz.underlying123 Tryz.underlying124 Tryz.underlying125 Tryz.underlying126 Tryz.underlying127 Tryz.underlying128 Tryz.underlying129 Tryz.underlying130 Tryz.underlying131 Tryz.underlying132 Tryz.underlying133 Tryz.underlying134 Tryz.underlying135 Tryz.underlying136 Tryz.underlying137 Tryz.underlying138 Tryz.underlying139 Tryz.underlying140 Tryz.underlying141 Tryz.underlying142 Tryz.underlying143 Tryz.underlying144 Tryz.underlying145 Tryz.underlying146 Tryz.underlying147 Tryz.underlying148 Tryz.underlying149 Tryz.underlying150 Tryz.underlying151 Tryz.underlying152 Tryz.underlying153 Tryz.underlying154 Tryz.underlying155 Tryz.underlying156 Tryz.underlying157 Tryz.underlying158 Tryz.underlying159 Tryz.underlying160 Tryz.underlying161 Tryz.underlying162 Tryz.underlying163 Tryz.underlying164 Tryz.underlying165 Tryz.underlying166 Tryz.underlying167 Tryz.underlying168 Tryz.underlying169 Tryz.underlying170 Tryz.underlying171 Tryz.underlying172 Tryz.underlying173 Tryz.underlying174 Tryz.underlying175 Tryz.underlying176 Tryz.underlying177 Tryz.underlying178 Tryz.underlying179 Tryz.underlying180 Tryz.underlying181 Tryz.underlying182 Tryz.underlying183 Tryz.underlying184 Tryz.underlying185 Tryz.underlying186 Tryz.underlying187 Tryz.underlying188 Tryz.underlying189 Tryz.underlying190 Tryz.underlying191 Tryz.underlying192 Tryz.underlying193 Tryz.underlying194 Tryz.underlying195 Tryz.underlying196 Tryz.underlying197 Tryz.underlying198 Tryz.underlying199 Tryz.underlying200 Tryz.underlying201 Tryz.underlying202 Tryz.underlying203 Tryz.underlying204 Tryz.underlying205 Tryz.underlying206 Tryz.underlying207 Tryz.underlying208 Tryz.underlying209 Tryz.underlying210 Tryz.underlying211 Tryz.underlying212 Tryz.underlying213 Tryz.underlying214 Tryz.underlying215 Tryz.underlying216 Tryz.underlying217 Tryz.underlying218 Tryz.underlying219 Tryz.underlying220 Tryz.underlying221 Tryz.underlying222 Tryz.underlying223 Tryz.underlying224 Tryz.underlying225 Tryz.underlying226 Tryz.underlying227 Tryz.underlying228 Tryz.underlying229 Tryz.underlying230 Tryz.underlying231 Tryz.underlying232 Tryz.underlying233 Tryz.underlying234 Tryz.underlying235 Tryz.underlying236 Tryz.underlying237 Tryz.underlying238 Tryz.underlying239 Tryz.underlying240 Tryz.underlying241 Tryz.underlying242 Tryz.underlying243 Tryz.underlying244 Tryz.underlying245 Tryz.underlying246 Tryz.underlying247 Tryz.underlying248 Tryz.underlying249 Tryz.underlying250 Tryz.underlying251 Tryz.underlying252 Tryz.underlying253 Tryz.underlying254 Tryz.underlying255 Tryz.underlying256 Tryz.underlying257 Tryz.underlying258 Tryz.underlying259 Tryz.underlying260 Tryz.underlying261 Tryz.underlying262 Tryz.underlying263 Tryz.underlying264 Tryz.underlying265 Tryz.underlying266 Tryz.underlying267 Tryz.underlying268 Tryz.underlying269 Tryz.underlying270 Tryz.underlying271 Tryz.underlying272 Tryz.underlying273 Tryz.underlying274 Tryz.underlying275 Tryz.underlying276 Tryz.underlying277 Tryz.underlying278 Tryz.underlying279 Tryz.underlying280 Tryz.underlying281 Tryz.underlying282 Tryz.underlying283 Tryz.underlying284 Tryz.underlying285 Tryz.underlying286 Tryz.underlying287 Tryz.underlying288 Tryz.underlying289 Tryz.underlying290 Tryz.underlying291 Tryz.underlying292 Tryz.underlying293 Tryz.underlying294 Tryz.underlying295 Tryz.underlying296 Tryz.underlying297 Tryz.underlying298 Tryz.underlying299 Tryz.underlying300 Tryz.underlying301 Tryz.underlying302 Tryz.underlying303 Tryz.underlying304 Tryz.underlying305 Tryz.underlying306 Tryz.underlying307 Tryz.underlying308 Tryz.underlying309 Tryz.underlying310 Tryz.underlying311 Tryz.underlying312 Tryz.underlying313 Tryz.underlying314 Tryz.underlying315 Tryz.underlying316 Tryz.underlying317 Tryz.underlying318 Tryz.underlying319 Tryz.underlying320 Tryz.underlying321 Tryz.underlying322 Tryz.underlying323 Tryz.underlying324 Tryz.underlying325 Tryz.underlying326 Tryz.underlying327 Tryz.underlying328 Tryz.underlying329 Tryz.underlying330 Tryz.underlying331 Tryz.underlying332 Tryz.underlying333 Tryz.underlying334 Tryz.underlying335 Tryz.underlying336 Tryz.underlying337 Tryz.underlying338 Tryz.underlying339 Tryz.underlying340 Tryz.underlying341 Tryz.underlying342 Tryz.underlying343 Tryz.underlying344
end Go.Proofs.YtbomkomipaipmaaGreat
namespace Go.Proofs.YtbomkomipaipmaaGreat

section
variable {P : Program}
end
theorem fields_msg : intFields Tryz.prog 103 2 = true := by kernel_rfl
end Go.Proofs.YtbomkomipaipmaaGreat
namespace Go.Proofs.YtbomkomipaipmaaGreat
open Go.RowKit (wrap64)
set_option maxRecDepth 100000

end Go.Proofs.YtbomkomipaipmaaGreat
namespace Go.Proofs.YtbomkomipaipmaaGreat
set_option maxRecDepth 100000

end Go.Proofs.YtbomkomipaipmaaGreat
namespace Go.Proofs.YtbomkomipaipmaaGreat
set_option maxRecDepth 100000

theorem drop_ne {α : Type} {a b : List α} (hn : a.length = b.length) {k : Nat} (h : k < a.length) : (a.drop k = b.drop k) ↔ (a[k] = b[k]'(hn ▸ h) ∧ a.drop (k + 1) = b.drop (k + 1)) := by
  rw [List.drop_eq_getElem_cons h, List.drop_eq_getElem_cons (hn ▸ h : k < b.length), List.cons.injEq]
theorem same13_ac {η : AHeap} {n : Nat} (a b : List (Int × Int)) (hl : a.length ≤ 17592186044416) : AC Tryz.prog 25 [.rs 2 (pairs a), .rs 2 (pairs b)] η n (Rt (.bool (decide (a = b))) η n) := by
  by_cases hn : a.length = b.length
  rotate_left
  · have : ¬ a = b := fun e => hn (by rw [e])
    have hn' : ¬ (a.length : Int) = b.length := by omega
    refine AC.enter Tryz.func25 rfl Tryz.ntmps25 (by simp) ?_
    simp [hn']
    refine resK.rt ⟨?_, rfl, rfl⟩
    simp [this]
  refine AC.enter Tryz.func25 rfl Tryz.ntmps25 (by simp) ?_
  simp [hn]
  refine loopK.inv [4, 5, 11, 12, 13, 14, 15, 16, 17, 18, 19, 20, 21, 22, 23, 24, 25] (fun k : Nat => k ≤ b.length ∧ (a.drop k = b.drop k ↔ a = b)) (fun k => [(5, .int .i64 k)]) (fun _ => η) (fun _ => n) (fun k => b.length - k) 0 (by simp) (by simp) (by simp) (by simp) ?_
  intro k ⟨g1, g2⟩
  simp [hn]
  refine CondP.dec (fun h => ?_) (fun h => ?_)
  · have ha : k < a.length := by omega
    have hd := drop_ne hn ha
    simp [h]
    refine drawK.intro mixed [(0, []), (1, []), (2, []), (3, []), (4, []), (5, []), (6, []), (7, []), (8, [])] (by kernel_rfl) ?_
    simp [aindex, aload, apart, ha, h, aeqS2 fields_msg]
    refine CondP.intro (fun h4 => ?_) (fun h4 => ?_)
    rotate_left
    · have h4 : a[k].1 = b[k].1 ∧ a[k].2 = b[k].2 := by simpa using h4
      have h5 : a[k] = b[k] := Prod.ext h4.1 h4.2
      simp [h4.1, h4.2]
      rw [wrap_id (by omega) (by omega)]
      exact endK.intro (k + 1) ⟨by omega, by rw [← g2, hd]; simp [h5]⟩ (by simp) (by repeat (first | exact Agree.mask _ _ | refine Agree.setf rfl ?_ | refine Agree.inner rfl ?_)) (AHeap.le_rfl _) (Nat.le_refl _) (show b.length - (k + 1) < b.length - k by omega)
    · have h5 : ¬ a = b := fun e => by
        have := (hd.1 (g2.2 e)).1
        simp [this] at h4
      simp [h4]
      exact resK.rt ⟨by simp [h5], rfl, rfl⟩
  · simp [h]
    refine resK.rt ⟨?_, rfl, rfl⟩
    have : a = b := g2.1 (by rw [List.drop_eq_nil_of_le (by omega), List.drop_eq_nil_of_le (by omega)])
    simp [this]
end Go.Proofs.YtbomkomipaipmaaGreat
namespace Go.Proofs.YtbomkomipaipmaaGreat
set_option maxRecDepth 100000

end Go.Proofs.YtbomkomipaipmaaGreat
namespace Go.Proofs.YtbomkomipaipmaaGreat
set_option maxRecDepth 100000

theorem lookF_at {D : MD} (h : MInv D) {i : Nat} {p : PD} (hp : D.ps[i]? = some p) : lookF D p.pid = if p.dead = true then (sta0, [], false) else (p.st, p.box, true) := by
  unfold lookF
  cases hd : p.dead with
  | false => rw [atP_eq h.pidU hp hd]; simp only [hp]; rfl
  | true =>
    cases ha : atP D.ps p.pid with
    | none => rfl
    | some j =>
      obtain ⟨q, h1, h2, h3⟩ := atP_some ha
      have := h.uniq h1 hp h3
      subst this
      rw [hp] at h1; cases h1
      rw [hd] at h2; cases h2
end Go.Proofs.YtbomkomipaipmaaGreat
namespace Go.Proofs.YtbomkomipaipmaaGreat
set_option maxRecDepth 100000

/-- what a step does to the mailboxes of those that lived -/
def Sp (D D' : MD) (pid : Int) (jx : Option Int) : Prop := ∀ x ∈ liveP D, (lookF D' x).2.2 = false ∨ (lookF D' x).2.1 = (lookF D x).2.1 ∨
  (x = pid ∧ ∃ t, t < (lookF D x).2.1.length ∧ (lookF D' x).2.1 = (lookF D x).2.1.eraseIdx t) ∨ (pid ≠ 0 ∧ jx = some x ∧ ∃ m, (lookF D' x).2.1 = (lookF D x).2.1 ++ [m])
theorem Sp.same {D D' : MD} (pid : Int) (e : D'.ps = D.ps) : Sp D D' pid none := fun x hx => by
  refine Or.inr (Or.inl ?_)
  unfold lookF
  rw [e]
theorem DoR.sp {k : Nat} {D D' : MD} {pid : Int} {l : List Int} {e : Int} (g : Good k D) (h : DoR D pid D' l e) : ∃ jx, Sp D D' pid jx := by
  rcases h.cases g with ⟨rfl, _⟩ | ⟨_, _, i0, p0, ha0, hp0, hd0, hpid0, _, rel, gd', _⟩
  · exact ⟨none, Sp.same pid rfl⟩
  · have hlk : ∀ x ∈ liveP D, ∃ (j : Nat) (q q' : PD), D.ps[j]? = some q ∧ D'.ps[j]? = some q' ∧ q.pid = x ∧ q'.pid = x ∧ (lookF D x).2.1 = q.box ∧ (lookF D' x).2.2 = (!q'.dead) ∧ (q'.dead = false → (lookF D' x).2.1 = q'.box) := fun x hx => by
      obtain ⟨j, q, h1, h2, h3⟩ := (g.inv.liveM x).1 hx
      obtain ⟨q', h4, h5⟩ := rel.old j q h1
      have e1 := lookF_at g.inv h1
      have e2 := lookF_at gd'.inv h4
      rw [h3] at e1
      rw [h5.pid, h3] at e2
      rw [h2] at e1
      simp only [Bool.false_eq_true, if_false] at e1
      refine ⟨j, q, q', h1, h4, h3, h5.pid.trans h3, by rw [e1], ?_, fun hd => ?_⟩
      · rw [e2]; cases q'.dead <;> rfl
      · rw [e2, hd]; rfl
    have hpos := (g.inv.pos (List.mem_of_getElem? hp0)).1
    rcases rel.boxes with ⟨t, hB⟩ | ⟨j0, m, hB⟩
    · refine ⟨none, fun x hx => ?_⟩
      obtain ⟨j, q, q', h1, h2, h3, h4, h5, h6, h7⟩ := hlk x hx
      cases hd : q'.dead with
      | true => left; rw [h6, hd]; rfl
      | false =>
        right
        rw [h7 hd, h5]
        rcases hB j q q' h1 h2 hd with e | ⟨e1, e2⟩
        · exact Or.inl e
        · subst e1
          rw [hp0] at h1; cases h1
          rcases Nat.lt_or_ge t p0.box.length with hl | hl
          · exact Or.inr (Or.inl ⟨h3.symm.trans hpid0, t, hl, e2⟩)
          · left; rw [e2, List.eraseIdx_of_length_le hl]
    · cases hj : D.ps[j0]? with
      | none =>
        refine ⟨none, fun x hx => ?_⟩
        obtain ⟨j, q, q', h1, h2, h3, h4, h5, h6, h7⟩ := hlk x hx
        cases hd : q'.dead with
        | true => left; rw [h6, hd]; rfl
        | false =>
          right
          rw [h7 hd, h5]
          rcases hB j q q' h1 h2 hd with e | ⟨e1, _⟩
          · exact Or.inl e
          · subst e1; rw [hj] at h1; cases h1
      | some q0 =>
        refine ⟨some q0.pid, fun x hx => ?_⟩
        obtain ⟨j, q, q', h1, h2, h3, h4, h5, h6, h7⟩ := hlk x hx
        cases hd : q'.dead with
        | true => left; rw [h6, hd]; rfl
        | false =>
          right
          rw [h7 hd, h5]
          rcases hB j q q' h1 h2 hd with e | ⟨e1, e2⟩
          · exact Or.inl e
          · subst e1
            rw [hj] at h1; cases h1
            exact Or.inr (Or.inr ⟨by omega, by rw [h3], m, e2⟩)
theorem look_len {k : Nat} {D : MD} (g : Good k D) (x : Int) : (lookF D x).2.1.length ≤ 16 := by
  unfold lookF
  cases ha : atP D.ps x with
  | none => simp
  | some i =>
    obtain ⟨p, hp, _, _⟩ := atP_some ha
    simp only [hp]
    exact g.box p (List.mem_of_getElem? hp)
set_option maxHeartbeats 8000000 in
theorem without_ac (a : List (Int × Int)) (t : Nat) (ht : t < a.length) (hl : a.length ≤ 16) {η : AHeap} {n : Nat} : AC Tryz.prog 26 [.rs 2 (pairs a), .rs 2 (pairs (a.eraseIdx t))] η n (Rt (.bool true) η n) := by
  refine AC.pure (.bool _) ?_
  refine AC.fresh fun hf => ?_; refine AC.enter Tryz.func26 rfl Tryz.ntmps26 (by simp) ?_
  simp
  refine loopK.inv [4, 5, 6, 7, 8, 9, 10, 11, 12, 13, 14, 15, 16, 17, 18, 19, 20, 21, 22] (fun x : Nat × AHeap × Nat => x.1 ≤ t ∧ (∀ q, q < n → x.2.1 q = η q) ∧ n ≤ x.2.2) (fun x => [(5, .int .i64 x.1)]) (fun x => x.2.1) (fun x => x.2.2) (fun x => a.length - x.1) (0, η, n) ⟨by simp, fun _ _ => rfl, Nat.le_refl _⟩ (by simp) (AHeap.le_rfl _) (Nat.le_refl _) ?_
  intro ⟨i, G, g⟩ ⟨i1, i2, i3⟩
  simp only at i1 i2 i3
  have hi : i < a.length := by omega
  have hi2 : (i : Int) < a.length := by omega
  have ewi : IntKind.i64.wrap ((i : Int) + 1) = (i : Int) + 1 := wrap_id (by omega) (by omega)
  have s1 : ∀ G : AHeap, asliceV Tryz.prog 54 (.rs 2 (pairs a)) none (some (.int .i64 (i : Int))) none G = some (.rs 2 (pairs (a.take i))) := fun G => by
    have h3 : (i : Int) ≤ a.length := by omega
    simp [asliceV, abnd, h3, pairs, List.map_take]
  have s2 : ∀ G : AHeap, asliceV Tryz.prog 54 (.rs 2 (pairs a)) (some (.int .i64 ((i : Int) + 1))) none none G = some (.rs 2 (pairs (a.drop (i + 1)))) := fun G => by
    have h3 : (i : Int) + 1 ≤ a.length := by omega
    have h4 : (0 : Int) ≤ (i : Int) + 1 := by omega
    have h5 : ((i : Int) + 1).toNat = i + 1 := by omega
    have h6 : List.take a.length (pairs a) = pairs a := List.take_of_length_le (by simp)
    simp [asliceV, abnd, h3, h4, h5, h6]
    simp [pairs, List.map_drop]
  have hmin : min i a.length = i := Nat.min_eq_left (by omega)
  have b1 : i * 16 ≤ 140737488355328 := by omega
  have b2 : i ≤ 17592186044416 := by omega
  have b3 : (i + (a.length - (i + 1))) * 16 ≤ 140737488355328 := by omega
  have b4 : i + (a.length - (i + 1)) ≤ 17592186044416 := by omega
  have etk : List.take i (pairs (a.take i)) = pairs (a.take i) := List.take_of_length_le (by simp; omega)
  have sc1 := pairs_sc' (a.take i)
  have sc2 := pairs_sc' (a.drop (i + 1))
  simp [hi2]
  refine drawK.intro mixed [(0, []), (1, []), (2, []), (4, []), (5, []), (6, []), (7, []), (9, []), (3, [7]), (8, []), (10, [])] (by kernel_rfl) ?_
  simp [lk_some, chkK, s1, s2, ewi, appK, aappend, arows, lenMax, hmin, b1, b2, b3, b4, etk, upd_apply]
  refine ⟨sc1, sc2, ?_⟩
  refine ACK.heap fun H hH => ?_
  have e1 : pairs (a.take i) ++ pairs (a.drop (i + 1)) = pairs (a.eraseIdx i) := by
    rw [List.eraseIdx_eq_take_drop_succ]; simp [pairs]
  rw [e1] at hH
  have hHr : H (g + 1) = some (.cells 2 (pairs (a.eraseIdx i))) := by rw [hH]; exact upd_eq _ _ _
  have hHk : ∀ q, q < n → H q = η q := fun q hq => by
    rw [hH]; simp only [upd_apply]
    repeat rw [if_neg (by omega)]
    exact i2 q hq
  clear hH
  have hlen : (a.eraseIdx i).length = i + (a.length - (i + 1)) := by rw [List.length_eraseIdx, if_pos hi]; omega
  refine ACK.freeze [g + 1] [] 1 ?_
  have ef : frz ([g + 1].contains ·) H 1 (.sl (g + 1) 0 (i + (a.length - (i + 1)))) = .rs 2 (pairs (a.eraseIdx i)) := by
    have et : List.take (i + (a.length - (i + 1))) (pairs (a.eraseIdx i)) = pairs (a.eraseIdx i) := List.take_of_length_le (by simp [hlen])
    simp [frz, hHr, et, hlen, b4, lenMax]
  have ef2 : frz ([g + 1].contains ·) H 1 (.rs 2 (pairs (a.eraseIdx t))) = .rs 2 (pairs (a.eraseIdx t)) := rfl
  simp only [List.map_cons, List.map_nil, ef, ef2]
  have hHk2 : ∀ q, q < n → frzH ([g + 1].contains ·) [] 1 H q = η q := fun q hq => by
    have : ¬ q = g + 1 := by omega
    simp [frzH, this, hHk q hq]
  refine ACK.heap fun H2 hH2 => ?_
  replace hHk2 : ∀ q, q < n → H2 q = η q := fun q hq => by rw [hH2]; exact hHk2 q hq
  clear hH2
  refine ACK.rt (same13_ac (a.eraseIdx i) (a.eraseIdx t) (by rw [hlen]; omega)) ?_
  by_cases hs : a.eraseIdx i = a.eraseIdx t
  · simp [hs]
    exact resK.of (η' := η) (le_old hf hHk2) _ (Nat.le_refl _) ⟨rfl, rfl⟩
  · have hne : i ≠ t := fun e => hs (by rw [e])
    simp [hs, ewi]
    exact endK.intro (i + 1, H2, g + 1 + 1) ⟨by simp only; omega, hHk2, by simp only; omega⟩ (by simp) (by repeat (first | exact Agree.mask _ _ | refine Agree.setf rfl ?_ | refine Agree.inner rfl ?_)) (AHeap.le_rfl _) (Nat.le_refl _) (show a.length - (i + 1) < a.length - i by omega)
/-- who got one -/
def GrI (D : MD) (jx : Option Int) (i gr : Nat) : Prop := gr = 1 → ∃ (i' : Nat) (x : Int), i' < i ∧ (liveP D)[i']? = some x ∧ jx = some x
theorem GrI.succ {D : MD} {jx : Option Int} {i gr : Nat} (h : GrI D jx i gr) : GrI D jx (i + 1) gr := fun e => by
  obtain ⟨a, y, b1, b2, b3⟩ := h e
  exact ⟨a, y, by omega, b2, b3⟩
/-- the mailboxes, noted down so far -/
def bxR (D : MD) (l : List Int) (i : Nat) : List (List AVal) := l.mapIdx fun j x => if j < i then [.rs 2 (pairs (lookF D x).2.1)] else [.nils]
@[simp] theorem bxR_len (D : MD) (l : List Int) (i : Nat) : (bxR D l i).length = l.length := by simp [bxR]
theorem bxR_get {D : MD} {l : List Int} {i j : Nat} (h : j < l.length) : (bxR D l i)[j]? = some (if j < i then [.rs 2 (pairs (lookF D l[j]).2.1)] else [.nils]) := by simp [bxR, h]
theorem bxR_zero (D : MD) (l : List Int) : bxR D l 0 = List.replicate l.length [.nils] := by
  refine List.ext_getElem? fun j => ?_
  by_cases h : j < l.length
  · rw [bxR_get h, List.getElem?_replicate]; simp [h]
  · rw [List.getElem?_eq_none (by simpa using h), List.getElem?_eq_none (by simpa using h)]
theorem bxR_set {D : MD} {l : List Int} {i : Nat} (h : i < l.length) : (bxR D l i).set i [.rs 2 (pairs (lookF D l[i]).2.1)] = bxR D l (i + 1) := by
  refine List.ext_getElem? fun j => ?_
  by_cases hj : j < l.length
  · rw [List.getElem?_set, bxR_get hj, bxR_get hj]
    by_cases e : i = j
    · subst e; simp [h]
    · rw [if_neg e]
      by_cases e2 : j < i
      · rw [if_pos e2, if_pos (by omega)]
      · rw [if_neg e2, if_neg (by omega)]
  · rw [List.getElem?_eq_none (by simp; omega), List.getElem?_eq_none (by simp; omega)]
set_option maxHeartbeats 16000000 in
theorem sends_ac (m : List Actr) (sc : List Pk) (h64 : Mod64 m) (hsc : sc.length ≤ 17592186044416) (η : AHeap) (n : Nat) : AC Tryz.prog 6 [modV m, .rs 3 (pkR sc)] η n (Rt (.bool true) η n) := by
  refine AC.pure (.bool _) ?_
  have hnew := fun η n => mnew16_ac (η := η) (n := n) h64
  simp only [modV] at hnew ⊢
  refine AC.fresh fun hf => ?_; refine AC.enter Tryz.func6 rfl Tryz.ntmps6 (by simp) ?_
  simp
  refine ACK.rt lives_ac ?_
  simp
  refine ACK.rt (early_ac sc hsc) ?_
  obtain ⟨L, hL⟩ : ∃ L, L = sc.take 1000 := ⟨_, rfl⟩
  have hLl : L.length ≤ 1000 := by rw [hL]; simp; omega
  rw [← hL]
  clear hL
  simp [aload, apart, upd_apply]
  refine ACK.use (hnew _ _).freshN ?_
  intro v η1 n1 ⟨hv, hf1, hn1⟩
  by_cases h0 : (checkF m).1 = 0
  · obtain ⟨nm, rfl, hI⟩ := MLI.start h0 hv hf1
    simp [fltV, aload, apart, afield, astore, upd_apply, upd_upd]
    have hI0 := hI.grow (η' := upd η1 n1 (some (.cells 3 [[.int .i64 0, .int .i64 0, .int .i64 0]]))) (n' := n1 + 1) (fun q hq => upd_ne (by omega)) (fun q hq => by rw [upd_ne (by omega)]; exact hf1 q (by omega)) (by omega)
    obtain ⟨mm, hmm⟩ : ∃ mm, mm = nm .mach := ⟨_, rfl⟩
    rw [← hmm] at hI0 ⊢
    refine loopK.inv [4, 7, 8, 9, 10, 11, 12, 13, 14, 15, 16, 17, 32, 33, 34, 35, 36, 37, 38, 39, 40, 41, 42, 43, 44, 45, 46, 47, 48, 49, 50, 51, 52, 53, 54, 55, 56, 57, 58, 59, 60, 61, 62, 63, 64, 65, 66, 67, 68, 69, 70, 71, 72, 73, 74, 75, 76, 77, 78, 79, 80, 81, 82, 83, 84, 85, 86, 87, 88, 89, 90, 91, 92, 93, 94, 95, 96, 97, 98, 99, 100, 101, 102, 103, 104, 105, 106, 107, 108, 109, 110, 111, 112, 113, 114, 115, 116, 117, 118, 119, 120, 121, 122, 123, 124, 125, 126, 127, 128, 129, 130, 131, 132, 133, 134, 135, 136, 137, 138, 139, 140, 141, 142, 143, 144, 145, 146, 147, 148, 149, 150, 151, 152, 153] (fun s : Nat × (Role → Nat) × MD × AHeap × Nat => s.1 ≤ L.length ∧ MLI (upd η n (some (.cells 1 [[.rs 5 (actsC m)]]))) (n + 1) mm s.1 s.2.1 s.2.2.1 s.2.2.2.1 s.2.2.2.2) (fun s => [(7, .int .i64 s.1)]) (fun s => s.2.2.2.1) (fun s => s.2.2.2.2) (fun s => L.length - s.1) (0, nm, newD m, upd η1 n1 (some (.cells 3 [[.int .i64 0, .int .i64 0, .int .i64 0]])), n1 + 1) ⟨by simp, hI0⟩ (by simp) (AHeap.le_rfl _) (Nat.le_refl _) ?_
    intro ⟨k, nm2, D, η2, n2⟩ ⟨j1, j2⟩
    simp only at j1 j2
    simp
    refine CondP.dec (fun hk => ?_) (fun hk => ?_)
    · have hk' : k < L.length := by omega
      have ewk : IntKind.i64.wrap ((k : Int) + 1) = (k : Int) + 1 := wrap_id (by omega) (by omega)
      obtain ⟨t, r, N, hP⟩ : ∃ t r N, L[k] = (t, r, N) := ⟨_, _, _, rfl⟩
      have l32 := liveP_len j2.good.inv
      have hin2 : ∀ q, InM nm2 D q → q < n2 := fun q hq => j2.at'.inlt j2.fr hq
      have hnd : ∀ (a b : Nat) (y : Int), (liveP D)[a]? = some y → (liveP D)[b]? = some y → a = b := fun a b y ha hb => by
        have nd : (liveP D).Nodup := j2.good.inv.liveLt.imp fun {a b} h => by omega
        obtain ⟨l1, e1⟩ := List.getElem?_eq_some_iff.1 ha
        obtain ⟨l2, e2⟩ := List.getElem?_eq_some_iff.1 hb
        exact (List.getElem_inj (h₀ := l1) (h₁ := l2) nd).1 (e1.trans e2.symm)
      have mb1 : (liveP D).length * 24 ≤ 140737488355328 := by omega
      have mb2 : (liveP D).length ≤ 17592186044416 := by omega
      simp [hk]
      refine ACK.rt j2.live ?_
      simp [makeK]
      refine ⟨by omega, by omega, ?_⟩
      refine loopK.inv [10, 43, 44, 45, 46, 47, 48, 49, 50, 51, 52, 53, 54, 55, 56, 57, 58, 59, 60, 61] (fun s : Nat × AHeap => s.1 ≤ (liveP D).length ∧ s.2 n2 = some (.cells 1 (bxR D (liveP D) s.1)) ∧ (∀ q, q < n2 → s.2 q = η2 q) ∧ ∀ q, n2 + 1 ≤ q → s.2 q = none) (fun s => [(10, .int .i64 s.1)]) (fun s => s.2) (fun _ => n2 + 1) (fun s => (liveP D).length - s.1) (0, upd η2 n2 (some (.cells 1 (List.replicate (liveP D).length [.nils])))) ⟨by simp, by simp only; rw [upd_eq, bxR_zero], fun q hq => upd_ne (by omega), fun q hq => by simp only; rw [upd_ne (by omega)]; exact j2.fr q (by omega)⟩ (by simp) (AHeap.le_rfl _) (Nat.le_refl _) ?_
      intro ⟨i, G⟩ ⟨i1, i2, i3, i4⟩
      simp only at i1 i2 i3 i4
      simp
      refine CondP.dec (fun ik => ?_) (fun ik => ?_)
      · have ik' : i < (liveP D).length := by omega
        have ewi : IntKind.i64.wrap ((i : Int) + 1) = (i : Int) + 1 := wrap_id (by omega) (by omega)
        have jj := j2.grow (n' := n2 + 1) i3 i4 (by omega)
        have hrow0 : (bxR D (liveP D) i)[i]? = some [.nils] := by rw [bxR_get ik', if_neg (by omega)]
        obtain ⟨bo, hbo⟩ : ∃ bo, (lookF D (liveP D)[i]).2.1 = bo := ⟨_, rfl⟩
        have hset := bxR_set (D := D) ik'
        rw [hbo] at hset
        simp [ik, aindex, aload, apart]
        refine ACK.rt (jj.look _) ?_
        simp [lookV, aindex, ik', i2, astore, hbo, ewi]
        refine endK.heap fun G2 hG2 => ?_
        refine endK.intro (i + 1, G2) ⟨by simp only; omega, ?_, fun q hq => ?_, fun q hq => ?_⟩ (by simp) (by repeat (first | exact Agree.mask _ _ | refine Agree.setf rfl ?_ | refine Agree.inner rfl ?_)) (AHeap.le_rfl _) (Nat.le_refl _) (show (liveP D).length - (i + 1) < (liveP D).length - i by omega)
        · simp only
          obtain ⟨_, hr1⟩ := List.getElem?_eq_some_iff.1 hrow0
          rw [hG2, upd_eq, ← hset, hr1]; rfl
        · simp only
          rw [hG2, upd_ne (by omega)]; exact i3 q hq
        · simp only
          rw [hG2, upd_ne (by omega)]; exact i4 q hq
      · have ei : i = (liveP D).length := by omega
        subst ei
        have j3 := j2.grow (n' := n2 + 1) i3 i4 (by omega)
        have hno : ¬ InM nm2 D n2 := fun h2 => by have := hin2 n2 h2; omega
        simp [hk', aindex, hP, pickC, aload, apart, afield]
        refine CondP.intro (fun ht => ?_) (fun ht => ?_)
        · simp
          have htk := (tick_ac j3.at' j3.good (by omega)).freshN
          rw [j3.mach] at htk
          refine ACK.use htk ?_
          intro u η4 n4 ⟨⟨t1, t2⟩, hf4, hn4⟩
          have j4 := j3.nx t2 hf4 j3.good.tick
          have hb4 : η4 n2 = some (.cells 1 (bxR D (liveP D) (liveP D).length)) := by rw [t2.keep n2 (by omega) hno, i2]
          obtain ⟨D', hD'⟩ : ∃ D', D' = tickD D := ⟨_, rfl⟩
          obtain ⟨nm4, hnm4⟩ : ∃ nm4, nm4 = nm2 := ⟨_, rfl⟩
          obtain ⟨jx, hjx0⟩ : ∃ jx : Option Int, jx = none := ⟨_, rfl⟩
          have hsp : ∀ x ∈ liveP D, (lookF D' x).2.1 = (lookF D x).2.1 := fun x _ => by rw [hD']; rfl
          rw [← hD', ← hnm4] at j4
          clear hD' hnm4
          simp
          have hbx4 := hb4
          refine loopK.inv [4, 12, 13, 14, 15, 16, 17, 78, 79, 80, 81, 82, 83, 84, 85, 86, 87, 88, 89, 90, 91, 92, 93, 94, 95, 96, 97, 98, 99, 100, 101, 102, 103, 104, 105, 106, 107, 108, 109, 110, 111, 112, 113, 114, 115, 116, 117, 118, 119, 120, 121, 122, 123, 124, 125, 126, 127, 128, 129, 130, 131, 132, 133, 134, 135, 136, 137, 138, 139, 140, 141, 142, 143, 144, 145, 146, 147, 148, 149, 150, 151] (fun s : Nat × Nat × AHeap × Nat => s.1 ≤ (liveP D).length ∧ s.2.1 ≤ 1 ∧ GrI D jx s.1 s.2.1 ∧ (∀ q, q < n4 → s.2.2.1 q = η4 q) ∧ n4 ≤ s.2.2.2 ∧ ∀ q, s.2.2.2 ≤ q → s.2.2.1 q = none) (fun s => [(13, .int .i64 s.1), (12, .int .i64 s.2.1)]) (fun s => s.2.2.1) (fun s => s.2.2.2) (fun s => (liveP D).length - s.1) (0, 0, η4, n4) ⟨by simp, by simp, (fun h => absurd h (by decide) : GrI D jx 0 0), fun _ _ => rfl, Nat.le_refl _, j4.fr⟩ (by simp) (AHeap.le_rfl _) (Nat.le_refl _) ?_
          intro ⟨i, gr, G, g⟩ ⟨i1, i2, i3, i4, i5, i6⟩
          simp only at i1 i2 i3 i4 i5 i6
          simp
          refine CondP.dec (fun ik => ?_) (fun ik => ?_)
          · have ik' : i < (liveP D).length := by omega
            have ewi : IntKind.i64.wrap ((i : Int) + 1) = (i : Int) + 1 := wrap_id (by omega) (by omega)
            have ewg : IntKind.i64.wrap ((gr : Int) + 1) = (gr : Int) + 1 := wrap_id (by omega) (by omega)
            obtain ⟨x, ex⟩ : ∃ x, (liveP D)[i] = x := ⟨_, rfl⟩
            have hx? : (liveP D)[i]? = some x := by rw [List.getElem?_eq_getElem ik', ex]
            have hspx := hsp x (ex ▸ List.getElem_mem ik')
            have jj := j4.grow i4 i6 i5
            have hlook := jj.look x
            have l16 := look_len j3.good x
            have l16' := look_len j4.good x
            revert hspx hlook l16 l16'
            obtain ⟨bo, hbo⟩ : ∃ bo, (lookF D x).2.1 = bo := ⟨_, rfl⟩
            obtain ⟨st', bo', ok', hlk⟩ : ∃ st' bo' ok', lookF D' x = (st', bo', ok') := ⟨_, _, _, rfl⟩
            rw [hbo, hlk]
            simp only
            intro hspx hlook l16 l16'
            have hbg : G n2 = some (.cells 1 (bxR D (liveP D) (liveP D).length)) := by rw [i4 n2 (by omega)]; exact hbx4
            have hrow : (bxR D (liveP D) (liveP D).length)[i]? = some [.rs 2 (pairs bo)] := by rw [bxR_get ik', if_pos ik', ex, hbo]
            obtain ⟨_, hr2⟩ := List.getElem?_eq_some_iff.1 hrow
            have hixb : ∀ H : AHeap, H n2 = some (.cells 1 (bxR D (liveP D) (liveP D).length)) → aindex Tryz.prog 57 (.sl n2 0 (liveP D).length) (.int .i64 i) H = some (.ptr n2 i 0) := fun H hH => by simp [aindex, hH, ik']
            have eb2 : (bxR D (liveP D) (liveP D).length).length = (liveP D).length := by simp
            simp [ik, aindex, aload, apart, ex]
            refine ACK.rt hlook ?_
            simp [lookV, stV, stC, astore, upd_apply, upd_upd]
            obtain ⟨H, hH⟩ : ∃ H, H = upd G g (some (.cells 6 [[.int .i64 st'.actor, .int .i64 st'.pc, .rs 1 (ints st'.stack), .rs 1 (ints st'.regs), .bool st'.waiting, .int .i64 st'.till]])) := ⟨_, rfl⟩
            have h2k : ∀ q, q < n4 → H q = η4 q := fun q hq => by rw [hH, upd_ne (by omega), i4 q hq]
            have h2f : ∀ q, g + 1 ≤ q → H q = none := fun q hq => by rw [hH, upd_ne (by omega)]; exact i6 q (by omega)
            have h2b : H n2 = some (.cells 1 (bxR D (liveP D) (liveP D).length)) := by rw [h2k n2 (by omega)]; exact hbx4
            rw [← hH]
            clear hH
            have hixH := hixb H h2b
            have cont : ∀ (a b : Nat), True := fun _ _ => trivial
            cases ok' with
            | false =>
              simp [ewi]
              exact endK.intro (i + 1, gr, H, g + 1) ⟨by simp only; omega, i2, i3.succ, h2k, by simp only; omega, h2f⟩ (by simp) (by repeat (first | exact Agree.mask _ _ | refine Agree.setf rfl ?_ | refine Agree.inner rfl ?_)) (AHeap.le_rfl _) (Nat.le_refl _) (show (liveP D).length - (i + 1) < (liveP D).length - i by omega)
            | true =>
              simp [aload, apart, hixH, h2b, hrow]
              refine ACK.rt (same13_ac bo' bo (by omega)) ?_
              by_cases hs : bo' = bo
              · simp [hs, ewi]
                exact endK.intro (i + 1, gr, H, g + 1) ⟨by simp only; omega, i2, i3.succ, h2k, by simp only; omega, h2f⟩ (by simp) (by repeat (first | exact Agree.mask _ _ | refine Agree.setf rfl ?_ | refine Agree.inner rfl ?_)) (AHeap.le_rfl _) (Nat.le_refl _) (show (liveP D).length - (i + 1) < (liveP D).length - i by omega)
              · exact absurd hspx hs
          · have hg1 : ¬ ((1 : Int) < (gr : Int)) := by omega
            have hg2 : ¬ 1 < gr := by omega
            simp [ik, hg1, ewk]
            exact endK.intro (k + 1, nm4, D', G, g) ⟨by simp only; omega, j4.grow i4 i6 i5⟩ (by simp) (by repeat (first | exact Agree.mask _ _ | refine Agree.setf rfl ?_ | refine Agree.inner rfl ?_)) (AHeap.le_rfl _) (Nat.le_refl _) (show L.length - (k + 1) < L.length - k by omega)
        · simp
          have hw := fun η n => which_ac (η := η) (n := n) (t, r, N) (liveP D) (by omega)
          obtain ⟨pid, hpid⟩ : ∃ pid, whichF (t, r, N) (liveP D) = pid := ⟨_, rfl⟩
          simp only [pickC, hpid] at hw
          simp [hk', aindex, hP, pickC, aload, apart]
          refine ACK.rt (hw _ _) ?_
          simp
          refine ACK.use (j3.do (by omega) pid) ?_
          intro dv η4 n4 ⟨nm4, D', l, e, u, ev, hu, hdo, j4, hn4, hkeep⟩
          subst ev
          obtain ⟨jx, hsp⟩ := hdo.sp j3.good
          have hb4 : η4 n2 = some (.cells 1 (bxR D (liveP D) (liveP D).length)) := by rw [hkeep n2 (by omega) hno, i2]
          simp
          have hbx4 := hb4
          refine loopK.inv [4, 12, 13, 14, 15, 16, 17, 78, 79, 80, 81, 82, 83, 84, 85, 86, 87, 88, 89, 90, 91, 92, 93, 94, 95, 96, 97, 98, 99, 100, 101, 102, 103, 104, 105, 106, 107, 108, 109, 110, 111, 112, 113, 114, 115, 116, 117, 118, 119, 120, 121, 122, 123, 124, 125, 126, 127, 128, 129, 130, 131, 132, 133, 134, 135, 136, 137, 138, 139, 140, 141, 142, 143, 144, 145, 146, 147, 148, 149, 150, 151] (fun s : Nat × Nat × AHeap × Nat => s.1 ≤ (liveP D).length ∧ s.2.1 ≤ 1 ∧ GrI D jx s.1 s.2.1 ∧ (∀ q, q < n4 → s.2.2.1 q = η4 q) ∧ n4 ≤ s.2.2.2 ∧ ∀ q, s.2.2.2 ≤ q → s.2.2.1 q = none) (fun s => [(13, .int .i64 s.1), (12, .int .i64 s.2.1)]) (fun s => s.2.2.1) (fun s => s.2.2.2) (fun s => (liveP D).length - s.1) (0, 0, η4, n4) ⟨by simp, by simp, (fun h => absurd h (by decide) : GrI D jx 0 0), fun _ _ => rfl, Nat.le_refl _, j4.fr⟩ (by simp) (AHeap.le_rfl _) (Nat.le_refl _) ?_
          intro ⟨i, gr, G, g⟩ ⟨i1, i2, i3, i4, i5, i6⟩
          simp only at i1 i2 i3 i4 i5 i6
          simp
          refine CondP.dec (fun ik => ?_) (fun ik => ?_)
          · have ik' : i < (liveP D).length := by omega
            have ewi : IntKind.i64.wrap ((i : Int) + 1) = (i : Int) + 1 := wrap_id (by omega) (by omega)
            have ewg : IntKind.i64.wrap ((gr : Int) + 1) = (gr : Int) + 1 := wrap_id (by omega) (by omega)
            obtain ⟨x, ex⟩ : ∃ x, (liveP D)[i] = x := ⟨_, rfl⟩
            have hx? : (liveP D)[i]? = some x := by rw [List.getElem?_eq_getElem ik', ex]
            have hspx := hsp x (ex ▸ List.getElem_mem ik')
            have jj := j4.grow i4 i6 i5
            have hlook := jj.look x
            have l16 := look_len j3.good x
            have l16' := look_len j4.good x
            revert hspx hlook l16 l16'
            obtain ⟨bo, hbo⟩ : ∃ bo, (lookF D x).2.1 = bo := ⟨_, rfl⟩
            obtain ⟨st', bo', ok', hlk⟩ : ∃ st' bo' ok', lookF D' x = (st', bo', ok') := ⟨_, _, _, rfl⟩
            rw [hbo, hlk]
            simp only
            intro hspx hlook l16 l16'
            have hbg : G n2 = some (.cells 1 (bxR D (liveP D) (liveP D).length)) := by rw [i4 n2 (by omega)]; exact hbx4
            have hrow : (bxR D (liveP D) (liveP D).length)[i]? = some [.rs 2 (pairs bo)] := by rw [bxR_get ik', if_pos ik', ex, hbo]
            obtain ⟨_, hr2⟩ := List.getElem?_eq_some_iff.1 hrow
            have hixb : ∀ H : AHeap, H n2 = some (.cells 1 (bxR D (liveP D) (liveP D).length)) → aindex Tryz.prog 57 (.sl n2 0 (liveP D).length) (.int .i64 i) H = some (.ptr n2 i 0) := fun H hH => by simp [aindex, hH, ik']
            have eb2 : (bxR D (liveP D) (liveP D).length).length = (liveP D).length := by simp
            simp [ik, aindex, aload, apart, ex]
            refine ACK.rt hlook ?_
            simp [lookV, stV, stC, astore, upd_apply, upd_upd]
            obtain ⟨H, hH⟩ : ∃ H, H = upd G g (some (.cells 6 [[.int .i64 st'.actor, .int .i64 st'.pc, .rs 1 (ints st'.stack), .rs 1 (ints st'.regs), .bool st'.waiting, .int .i64 st'.till]])) := ⟨_, rfl⟩
            have h2k : ∀ q, q < n4 → H q = η4 q := fun q hq => by rw [hH, upd_ne (by omega), i4 q hq]
            have h2f : ∀ q, g + 1 ≤ q → H q = none := fun q hq => by rw [hH, upd_ne (by omega)]; exact i6 q (by omega)
            have h2b : H n2 = some (.cells 1 (bxR D (liveP D) (liveP D).length)) := by rw [h2k n2 (by omega)]; exact hbx4
            rw [← hH]
            clear hH
            have hixH := hixb H h2b
            have cont : ∀ (a b : Nat), True := fun _ _ => trivial
            cases ok' with
            | false =>
              simp [ewi]
              exact endK.intro (i + 1, gr, H, g + 1) ⟨by simp only; omega, i2, i3.succ, h2k, by simp only; omega, h2f⟩ (by simp) (by repeat (first | exact Agree.mask _ _ | refine Agree.setf rfl ?_ | refine Agree.inner rfl ?_)) (AHeap.le_rfl _) (Nat.le_refl _) (show (liveP D).length - (i + 1) < (liveP D).length - i by omega)
            | true =>
              simp [aload, apart, hixH, h2b, hrow]
              refine ACK.rt (same13_ac bo' bo (by omega)) ?_
              by_cases hs : bo' = bo
              · simp [hs, ewi]
                exact endK.intro (i + 1, gr, H, g + 1) ⟨by simp only; omega, i2, i3.succ, h2k, by simp only; omega, h2f⟩ (by simp) (by repeat (first | exact Agree.mask _ _ | refine Agree.setf rfl ?_ | refine Agree.inner rfl ?_)) (AHeap.le_rfl _) (Nat.le_refl _) (show (liveP D).length - (i + 1) < (liveP D).length - i by omega)
              · have ewn : IntKind.i64.wrap ((bo.length : Int) + 1) = (bo.length : Int) + 1 := wrap_id (by omega) (by omega)
                have ewm : IntKind.i64.wrap ((bo.length : Int) - 1) = (bo.length : Int) - 1 := wrap_id (by omega) (by omega)
                rcases hspx with hc | hc | ⟨hxp, t, ht, het⟩ | ⟨hp0, hjx, mg, hmg⟩
                · cases hc
                · exact absurd hc hs
                · have hlen : bo'.length = bo.length - 1 := by rw [het, List.length_eraseIdx, if_pos ht]
                  have c1 : ¬ ((bo'.length : Int) = (bo.length : Int) + 1) := by omega
                  have c2 : (bo'.length : Int) = (bo.length : Int) - 1 := by omega
                  have c3 : ¬ ((bo.length : Int) - 1 = (bo.length : Int) + 1) := by omega
                  have hwo := fun η n => without_ac (η := η) (n := n) bo t ht l16
                  rw [← het] at hwo
                  simp [hs, aload, apart, hixH, h2b, hrow]
                  refine drawK.intro mixed [(0, []), (1, []), (2, []), (3, []), (4, []), (5, []), (6, []), (7, []), (8, []), (9, []), (10, []), (11, []), (12, []), (13, []), (14, []), (15, []), (16, []), (17, []), (18, [])] (by kernel_rfl) ?_
                  simp [aload, apart, h2b, hr2, ewn, c3, ex, hxp, ewm, c2, aindex, ik']
                  refine ACK.rt (hwo _ _) ?_
                  simp [ewi]
                  exact endK.intro (i + 1, gr, H, g + 1) ⟨by simp only; omega, i2, i3.succ, h2k, by simp only; omega, h2f⟩ (by simp) (by repeat (first | exact Agree.mask _ _ | refine Agree.setf rfl ?_ | refine Agree.inner rfl ?_)) (AHeap.le_rfl _) (Nat.le_refl _) (show (liveP D).length - (i + 1) < (liveP D).length - i by omega)
                · have hlen : bo'.length = bo.length + 1 := by rw [hmg]; simp
                  have c1 : (bo'.length : Int) = (bo.length : Int) + 1 := by omega
                  have s1 : ∀ G : AHeap, asliceV Tryz.prog 54 (.rs 2 (pairs bo')) none (some (.int .i64 (bo.length : Int))) none G = some (.rs 2 (pairs bo)) := fun G => by
                    have h3 : (bo.length : Int) ≤ bo'.length := by omega
                    have h4 : List.take bo.length (pairs bo') = pairs bo := by rw [hmg]; simp [pairs]
                    simp [asliceV, abnd, h3, h4]
                  have hg0 : gr = 0 := by
                    rcases Nat.lt_or_ge gr 1 with h | h
                    · omega
                    · obtain ⟨a, y, b1, b2, b3⟩ := i3 (by omega)
                      rw [hjx] at b3; cases b3
                      have := hnd a i x b2 hx?
                      omega
                  subst hg0
                  have ew1 : IntKind.i64.wrap (1 : Int) = 1 := wrap_id (by omega) (by omega)
                  simp [hs, aload, apart, hixH, h2b, hrow]
                  refine drawK.intro mixed [(0, []), (1, []), (2, []), (3, []), (4, []), (5, []), (6, []), (7, []), (8, []), (9, []), (10, []), (11, []), (12, []), (13, []), (14, []), (15, []), (16, []), (17, []), (18, [])] (by kernel_rfl) ?_
                  simp [aload, apart, hixH, h2b, hrow, ewn, c1, s1]
                  refine ACK.rt (same13_ac bo bo (by omega)) ?_
                  simp [hp0, ewi, ew1]
                  exact endK.intro (i + 1, 1, H, g + 1) ⟨by simp only; omega, by simp, fun _ => ⟨i, x, Nat.lt_succ_self i, hx?, hjx⟩, h2k, by simp only; omega, h2f⟩ (by simp) (by repeat (first | exact Agree.mask _ _ | refine Agree.setf rfl ?_ | refine Agree.inner rfl ?_)) (AHeap.le_rfl _) (Nat.le_refl _) (show (liveP D).length - (i + 1) < (liveP D).length - i by omega)
          · have hg1 : ¬ ((1 : Int) < (gr : Int)) := by omega
            have hg2 : ¬ 1 < gr := by omega
            simp [ik, hg1, ewk]
            exact endK.intro (k + 1, nm4, D', G, g) ⟨by simp only; omega, j4.grow i4 i6 i5⟩ (by simp) (by repeat (first | exact Agree.mask _ _ | refine Agree.setf rfl ?_ | refine Agree.inner rfl ?_)) (AHeap.le_rfl _) (Nat.le_refl _) (show L.length - (k + 1) < L.length - k by omega)
    · simp [hk]
      refine resK.of (η' := η) (le_old hf fun q hq => ?_) _ (Nat.le_refl _) ⟨rfl, rfl⟩
      rw [j2.keep q (by omega), upd_ne (by omega)]
  · unfold NewK at hv
    rw [if_neg h0] at hv
    obtain ⟨rfl, hk, _⟩ := hv
    simp [fltV, aload, apart, afield, astore, upd_apply, upd_upd, h0]
    refine resK.of (η' := η) (le_old hf fun q hq => ?_) _ (Nat.le_refl _) ⟨rfl, rfl⟩
    rw [upd_ne (by omega), hk q (by omega), upd_ne (by omega)]
end Go.Proofs.YtbomkomipaipmaaGreat
