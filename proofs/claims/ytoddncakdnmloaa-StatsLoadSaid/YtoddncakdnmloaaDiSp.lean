/- Events and spans, and where they lie. -/
import Derived.Test.YtoddncakdnmloaaDiOwn
namespace Go.Proofs.Ytoddncakdnmloaa.diary
open Go Go.Vx

/-- an event, and where its lists lie -/
structure Ev where
  step : Int
  who : Int
  nth : Int
  ends : Bool
  kind : Int
  task : Int
  va : AV
  vs : List Int
  code : Int
  v : Int
  la : AV
  ls : List Int
def Ev.cells (e : Ev) : List AV := [.int .i64 e.step, .int .i64 e.who, .int .i64 e.nth, .bool e.ends, .int .i64 e.kind, .int .u64 e.task, e.va, .int .i64 e.code, .int .u64 e.v, e.la]
/-- a row that came in -/
def InRow (G : Addr → Option AV) (k : IntKind) (v : AV) (xs : List Int) : Prop := ∀ M : AMem, M.g = G → IRow M k v xs
structure EvOk (G : Addr → Option AV) (e : Ev) : Prop where
  vs : InRow G .i64 e.va e.vs
  ls : InRow G .u64 e.la e.ls
  nv : e.vs.length ≤ 100
  nl : e.ls.length ≤ 100
structure Sp where
  who : Int
  nth : Int
  from_ : Int
  to : Int
  kind : Int
  task : Int
  vs : List Int
  code : Int
  v : Int
  ls : List Int
deriving DecidableEq
/-- a span of our own -/
def IsSp (M0 M : AMem) (cs : List AV) (s : Sp) : Prop := ∃ va la, cs = spC s.who s.nth s.from_ s.to s.kind s.task va s.code s.v la ∧ Solo M0 M .i64 va s.vs ∧ Solo M0 M .u64 la s.ls
theorem IsSp.grow {M0 M M' : AMem} {cs : List AV} {s : Sp} (h : IsSp M0 M cs s) (hok : Ok M) (hg : Grow M M') : IsSp M0 M' cs s := by
  obtain ⟨va, la, e, h1, h2⟩ := h
  exact ⟨va, la, e, h1.grow hok hg, h2.grow hok hg⟩
theorem IsSp.keep {M0 M M' : AMem} {cs : List AV} {s : Sp} {v : AV} (h : IsSp M0 M cs s) (hk : Keeps M M' v) (hs : ∀ b cs sz, sbOf v = some b → M.get b = some (.cells cs sz true none) → cs ≠ [] ∧ sz ≠ 1) : IsSp M0 M' cs s := by
  obtain ⟨va, la, e, h1, h2⟩ := h
  have key : ∀ b cs sz, M.get b = some (.cells cs sz true none) → (cs ≠ [] → sz = 1) → sbOf v ≠ some b := fun b cs sz hb hc hv => by
    obtain ⟨k1, k2⟩ := hs b cs sz hv hb
    exact k2 (hc k1)
  exact ⟨va, la, e, h1.keep hk (fun b cs sz hb _ hc => key b cs sz hb hc), h2.keep hk (fun b cs sz hb _ hc => key b cs sz hb hc)⟩
theorem RowE.beq {M : AMem} {sz : Nat} {v : AV} {els : List (List AV)} (h : RowE M sz v els) : AV.beq v v = true := by
  obtain ⟨he, ⟨a, c, rfl, h⟩ | ⟨rfl, _⟩ | ⟨b, o, c, gr, cs, sz', wr, g, rfl, h1, h2, h3, h4⟩⟩ := h <;> simp [AV.beq]
theorem keepS {M M' : AMem} {b : Nat} (hk : ∀ c, c ≠ b → M'.get c = M.get c) : Keeps M M' (.slice (some (b, 0)) 0 0 false) := fun c k hc _ hs => (hk c (fun he => hs (by rw [he]; rfl))).trans hc
theorem spC_one {a b c e f g h i : Int} {va la : AV} (h1 : va.one = true) (h2 : la.one = true) : (spC a b c e f g va h i la).all AV.one = true := by simp [one_int, h1, h2]
theorem InRow.one {G : Addr → Option AV} {k : IntKind} {v : AV} {xs : List Int} (h : InRow G k v xs) : v.one = true := (h ⟨.nil, 0, G⟩ rfl).one2.1
/-- Spans of our own in a row. -/
def SpRow (M0 M : AMem) (v : AV) (sps : List Sp) : Prop :=
  ∃ els, FreshE M0 M 10 v els ∧ (∀ b, sbOf v = some b → ∃ cs g, M.get b = some (.cells cs 10 true g) ∧ cs ≠ []) ∧ els.length = sps.length ∧ ∀ (i : Nat) s, sps[i]? = some s → ∃ e, els[i]? = some e ∧ IsSp M0 M e s
theorem SpRow.grow {M0 M M' : AMem} {v : AV} {sps : List Sp} (h : SpRow M0 M v sps) (hok : Ok M) (hg : Grow M M') : SpRow M0 M' v sps := by
  obtain ⟨els, h1, h2, h3, h4⟩ := h
  refine ⟨els, h1.grow hok hg, fun b hb => ?_, h3, fun i s hi => ?_⟩
  · obtain ⟨cs, g, k1, k2⟩ := h2 b hb
    exact ⟨cs, g, (hg.get _ (get_lt hok k1)).trans k1, k2⟩
  · obtain ⟨e, k1, k2⟩ := h4 i s hi
    exact ⟨e, k1, k2.grow hok hg⟩
/-- a span that can be read -/
def RdSp (M : AMem) (cs : List AV) (s : Sp) : Prop := ∃ va la, cs = spC s.who s.nth s.from_ s.to s.kind s.task va s.code s.v la ∧ IRow M .i64 va s.vs ∧ IRow M .u64 la s.ls
def RdRow (M : AMem) (v : AV) (sps : List Sp) : Prop := ∃ els, RowE M 10 v els ∧ els.length = sps.length ∧ ∀ (i : Nat) s, sps[i]? = some s → ∃ e, els[i]? = some e ∧ RdSp M e s
theorem RdSp.grow {M M' : AMem} {cs : List AV} {s : Sp} (h : RdSp M cs s) (hg : Grow M M') : RdSp M' cs s := by
  obtain ⟨va, la, e, h1, h2⟩ := h
  exact ⟨va, la, e, h1.grow hg, h2.grow hg⟩
theorem RdRow.grow {M M' : AMem} {v : AV} {sps : List Sp} (h : RdRow M v sps) (hg : Grow M M') : RdRow M' v sps := by
  obtain ⟨els, h1, h2, h3⟩ := h
  exact ⟨els, h1.grow hg, h2, fun i s hi => by
    obtain ⟨e, k1, k2⟩ := h3 i s hi
    exact ⟨e, k1, k2.grow hg⟩⟩
theorem SpRow.rd {M0 M : AMem} {v : AV} {sps : List Sp} (h : SpRow M0 M v sps) (hok : Ok M) : RdRow M v sps := by
  obtain ⟨els, h1, _, h3, h4⟩ := h
  refine ⟨els, h1.row hok, h3, fun i s hi => ?_⟩
  obtain ⟨e, k1, va, la, k2, k3, k4⟩ := h4 i s hi
  exact ⟨e, k1, va, la, k2, k3.row hok, k4.row hok⟩
theorem RdRow.len {M : AMem} {v : AV} {sps : List Sp} (h : RdRow M v sps) : opI .lenS [v] M = some (.val (.int .i64 sps.length) M) := by
  obtain ⟨els, h1, h2, _⟩ := h
  rw [← h2]; exact h1.len
theorem RdRow.at_ {M : AMem} {v : AV} {sps : List Sp} (h : RdRow M v sps) {i : Nat} (hi : i < sps.length) :
    ∃ p va la, IsP p ∧ opI (.indexAddrS 10) [v, .int .i64 i] M = some (.val (padd p 0) M) ∧ IRow M .i64 va sps[i].vs ∧ IRow M .u64 la sps[i].ls ∧
      opI (.load false 1) [padd p 0] M = some (.val (.int .i64 sps[i].who) M) ∧ opI (.load false 1) [padd p 1] M = some (.val (.int .i64 sps[i].nth) M) ∧ opI (.load false 1) [padd p 2] M = some (.val (.int .i64 sps[i].from_) M) ∧ opI (.load false 1) [padd p 3] M = some (.val (.int .i64 sps[i].to) M) ∧
      opI (.load true 3) [padd p 4] M = some (.val (.agg [.int .i64 sps[i].kind, .int .u64 sps[i].task, va]) M) ∧ opI (.load true 3) [padd p 7] M = some (.val (.agg [.int .i64 sps[i].code, .int .u64 sps[i].v, la]) M) := by
  obtain ⟨els, h1, h2, h3⟩ := h
  obtain ⟨e, k1, va, la, rfl, k3, k4⟩ := h3 i _ (List.getElem?_eq_getElem hi)
  have hil : i < els.length := by omega
  obtain ⟨p, pp, p1, p2, p3⟩ := h1.at_ hil (by omega)
  rw [(List.getElem?_eq_some_iff.1 k1).2] at p2 p3
  exact ⟨p, va, la, pp, p1, k3, k4, p3 0 _ rfl, p3 1 _ rfl, p3 2 _ rfl, p3 3 _ rfl, p2 4 3 (by omega), p2 7 3 (by omega)⟩
theorem sp_eq {a b : Sp} : a = b ↔ a.who = b.who ∧ a.nth = b.nth ∧ a.from_ = b.from_ ∧ a.to = b.to ∧ (a.kind = b.kind ∧ a.task = b.task ∧ a.vs = b.vs) ∧ (a.code = b.code ∧ a.v = b.v ∧ a.ls = b.ls) := by
  cases a; cases b; simp only [Sp.mk.injEq]
  constructor
  · rintro ⟨h1, h2, h3, h4, h5, h6, h7, h8, h9, h10⟩; exact ⟨h1, h2, h3, h4, ⟨h5, h6, h7⟩, h8, h9, h10⟩
  · rintro ⟨h1, h2, h3, h4, ⟨h5, h6, h7⟩, h8, h9, h10⟩; exact ⟨h1, h2, h3, h4, h5, h6, h7, h8, h9, h10⟩
theorem InRow.nil {G : Addr → Option AV} {k : IntKind} : InRow G k (.slice none 0 0 false) [] := fun _ _ => IRow.nil
/-- a span whose lists came in -/
def InSp (G : Addr → Option AV) (cs : List AV) (s : Sp) : Prop := ∃ va la, cs = spC s.who s.nth s.from_ s.to s.kind s.task va s.code s.v la ∧ InRow G .i64 va s.vs ∧ InRow G .u64 la s.ls
theorem padd_zero {p : AV} (h : IsP p) : padd p 0 = p := by
  match p, h with
  | .ptr (some (b, x)), _ => rfl
  | .rptr (some x), _ => simp [padd, addr_add0]
theorem OwnE.other {M0 M M' : AMem} {sz : Nat} {v : AV} {els : List (List AV)} {b0 : Nat} (h : OwnE M0 M sz v els) (hk : ∀ c, c ≠ b0 → M'.get c = M.get c) (hb : sbOf v ≠ some b0) : OwnE M0 M' sz v els := by
  obtain ⟨b, gr, sz', g, rfl, h1, h2, h3⟩ := h
  exact ⟨b, gr, sz', g, rfl, h1, (hk b (fun he => hb (by rw [← he]; rfl))).trans h2, h3⟩
theorem OwnE.lt {M0 M : AMem} {sz : Nat} {v : AV} {els : List (List AV)} (h : OwnE M0 M sz v els) (hok : Ok M) : sbOf v ≠ some M.n := by
  obtain ⟨b, gr, sz', g, rfl, h1, h2, h3⟩ := h
  have := get_lt hok h2
  simp [sbOf]; omega

end Go.Proofs.Ytoddncakdnmloaa.diary
