/- Abstract values (slices by value, boxed variables by number), how they lie in memory, and that this stays so as memory grows. -/
import Derived.Tactics
import Derived.Recover
import Derived.Laws.World
import Derived.MapKept
namespace Go.Ab
set_option linter.unusedVariables false

inductive Tag where
  | any
  | full
  | own (g : Nat)
  | fresh
  | nil

inductive AV where
  | val (v : Value)
  | top
  | ptr (i off : Nat)
  | eptr (cs : List AV)
  | slice (es : List (List AV)) (tag : Tag)
  | mslice (i off len cap : Nat)
  | row (g off n : Nat)
  | rptr (g k f : Nat)
  | mapr (g : Nat)
  | func (f : FuncId) (caps : List AV)
  | iface (t : TypeId) (v : AV)
  | agg (cs : List AV)
  | tuple (vs : List AV)

/-- A row of the call's own to which is appended: is there one yet, its block, how many elements it has, room for how many, cells of one. -/
structure OwnE where
  live : Bool
  blk : Nat
  len : Nat
  cap : Nat
  sz : Nat
  row : Bool
  map : Bool

abbrev Snap := Nat → Nat → Option Value

def TagOk (Om : List OwnE) : Tag → Nat → Nat → Nat → Nat → Nat → Prop
  | .any, _, _, _, _, _ => True
  | .full, _, _, len, cap, _ => cap = len
  | .fresh, _, _, _, _, _ => False
  | .nil, _, _, _, _, _ => False
  | .own g, b, off, len, cap, sz => ∃ e : OwnE, Om[g]? = some e ∧ e.row = false ∧ len ≤ e.len ∧ (len = e.len → (e.live = true ∧ e.blk = b ∧ off = 0 ∧ e.cap = cap ∧ e.sz = sz) ∨ cap = len)

def TagE (Om : List OwnE) : Tag → Option Addr → Nat → Prop
  | .any, _, _ => True
  | .full, _, cap => cap = 0
  | .fresh, _, cap => cap = 0
  | .nil, base, cap => base = none ∧ cap = 0
  | .own g, _, cap => ∃ e : OwnE, Om[g]? = some e ∧ e.row = false ∧ (e.len = 0 → cap = 0)

inductive V (S : Snap) (Om : List OwnE) : List Nat → AV → Value → Prop
  | val {ι : List Nat} (v : Value) : V S Om ι (.val v) v
  | top {ι : List Nat} (v : Value) : V S Om ι .top v
  | ptr {ι : List Nat} {i off b : Nat} (h : ι[i]? = some b) : V S Om ι (.ptr i off) (.pointer (some ⟨b, off, none⟩))
  | eptr {ι : List Nat} {cs : List AV} {b off : Nat} (us : List Value) (hl : us.length = cs.length)
      (hS : ∀ (j : Nat) (u : Value), us[j]? = some u → S b (off + j) = some u)
      (hV : ∀ (j : Nat) (c : AV) (u : Value), cs[j]? = some c → us[j]? = some u → V S Om [] c u) : V S Om ι (.eptr cs) (.pointer (some ⟨b, off, none⟩))
  | empty {ι : List Nat} {base : Option Addr} {cap : Nat} {tag : Tag} (ht : TagE Om tag base cap) : V S Om ι (.slice [] tag) (.slice base 0 cap)
  | slice {ι : List Nat} {es : List (List AV)} {tag : Tag} {b off cap sz : Nat} (us : List (List Value)) (hl : us.length = es.length)
      (hsz : ∀ u ∈ us, u.length = sz)
      (hes : ∀ (i : Nat) (e : List AV) (u : List Value), es[i]? = some e → us[i]? = some u → u.length = e.length)
      (hS : ∀ (i : Nat) (u : List Value) (j : Nat) (x : Value), us[i]? = some u → u[j]? = some x → S b (off + i * sz + j) = some x)
      (hV : ∀ (i : Nat) (e : List AV) (u : List Value) (j : Nat) (c : AV) (x : Value), es[i]? = some e → us[i]? = some u → e[j]? = some c → u[j]? = some x → V S Om [] c x)
      (hc : es.length ≤ cap) (ht : TagOk Om tag b off es.length cap sz) : V S Om ι (.slice es tag) (.slice (some ⟨b, off, none⟩) es.length cap)
  | mslice {ι : List Nat} {i off len cap cap2 b : Nat} (h : ι[i]? = some b) (hc : cap ≤ cap2) : V S Om ι (.mslice i off len cap) (.slice (some ⟨b, off, none⟩) len cap2)
  | row {ι : List Nat} {g off n : Nat} {e : OwnE} (he : Om[g]? = some e) (hr : e.row = true) (hm : e.map = false) (hn : off + n ≤ e.len) : V S Om ι (.row g off n) (.slice (some ⟨e.blk, off * e.sz, none⟩) n (e.cap - off))
  | rptr {ι : List Nat} {g k f : Nat} {e : OwnE} (he : Om[g]? = some e) (hr : e.row = true) (hm : e.map = false) : V S Om ι (.rptr g k f) (.pointer (some ⟨e.blk, k * e.sz + f, none⟩))
  | mapr {ι : List Nat} {g : Nat} {e : OwnE} (he : Om[g]? = some e) (hr : e.row = true) (hm : e.map = true) : V S Om ι (.mapr g) (.map (some e.blk))
  | func {ι : List Nat} {f : FuncId} {caps : List AV} (us : List Value) (hl : us.length = caps.length)
      (hV : ∀ (j : Nat) (c : AV) (u : Value), caps[j]? = some c → us[j]? = some u → V S Om ι c u) : V S Om ι (.func f caps) (.func (.func f) #[] us.toArray)
  | iface {ι : List Nat} {t : TypeId} {a : AV} {u : Value} (h : V S Om ι a u) : V S Om ι (.iface t a) (.iface t u)
  | agg {ι : List Nat} {cs : List AV} (us : List Value) (hl : us.length = cs.length)
      (hV : ∀ (j : Nat) (c : AV) (u : Value), cs[j]? = some c → us[j]? = some u → V S Om ι c u) : V S Om ι (.agg cs) (.agg us.toArray)
  | tuple {ι : List Nat} {vs : List AV} (us : List Value) (hl : us.length = vs.length)
      (hV : ∀ (j : Nat) (c : AV) (u : Value), vs[j]? = some c → us[j]? = some u → V S Om ι c u) : V S Om ι (.tuple vs) (.tuple us.toArray)

structure Ext (S : Snap) (Om : List OwnE) (S' : Snap) (Om' : List OwnE) : Prop where
  snap : ∀ b o v, S b o = some v → S' b o = some v
  own : ∀ (g : Nat) (e : OwnE), Om[g]? = some e → ∃ e' : OwnE, Om'[g]? = some e' ∧ e.len ≤ e'.len ∧ (e.len = e'.len → e' = e) ∧ e'.row = e.row ∧ (e.row = true → e' = e)

theorem Ext.row {S S' : Snap} {Om Om' : List OwnE} (h : Ext S Om S' Om') {g : Nat} {e : OwnE} (he : Om[g]? = some e) (hr : e.row = true) : Om'[g]? = some e := by
  obtain ⟨e', h1, _, _, _, h2⟩ := h.own g e he
  rw [h2 hr] at h1; exact h1

theorem Ext.refl (S : Snap) (Om : List OwnE) : Ext S Om S Om := ⟨fun _ _ _ h => h, fun _ e h => ⟨e, h, Nat.le_refl _, fun _ => rfl, rfl, fun _ => rfl⟩⟩

theorem Ext.trans {S S' S'' : Snap} {Om Om' Om'' : List OwnE} (h : Ext S Om S' Om') (h' : Ext S' Om' S'' Om'') : Ext S Om S'' Om'' :=
  ⟨fun b o v hv => h'.snap b o v (h.snap b o v hv), fun g e he => by
    obtain ⟨e', he', h1, h2, h5, h6⟩ := h.own g e he
    obtain ⟨e'', he'', h3, h4, h7, h8⟩ := h'.own g e' he'
    refine ⟨e'', he'', by omega, fun heq => ?_, h7.trans h5, fun hr => ?_⟩
    · have : e' = e := h2 (by omega)
      subst this
      exact h4 heq
    · have : e' = e := h6 hr
      subst this
      exact h8 hr⟩

theorem TagOk.mono {S S' : Snap} {Om Om' : List OwnE} (hx : Ext S Om S' Om') {t : Tag} {b off len cap sz : Nat} (h : TagOk Om t b off len cap sz) : TagOk Om' t b off len cap sz := by
  cases t with
  | any => trivial
  | full => exact h
  | fresh => exact h
  | nil => exact h
  | own g =>
    obtain ⟨e, he, hr, h1, h2⟩ := h
    obtain ⟨e', he', h3, h4, h5, _⟩ := hx.own g e he
    refine ⟨e', he', h5.trans hr, by omega, fun heq => ?_⟩
    have : e' = e := h4 (by omega)
    subst this
    exact h2 heq

theorem TagE.mono {S S' : Snap} {Om Om' : List OwnE} (hx : Ext S Om S' Om') {t : Tag} {base : Option Addr} {cap : Nat} (h : TagE Om t base cap) : TagE Om' t base cap := by
  cases t with
  | any => trivial
  | full => exact h
  | fresh => exact h
  | nil => exact h
  | own g =>
    obtain ⟨e, he, hr, h1⟩ := h
    obtain ⟨e', he', h3, h4, h5, _⟩ := hx.own g e he
    exact ⟨e', he', h5.trans hr, fun h0 => h1 (by omega)⟩

theorem prefix_get {ι ι' : List Nat} (hp : ι <+: ι') {i b : Nat} (h : ι[i]? = some b) : ι'[i]? = some b := by
  obtain ⟨t, rfl⟩ := hp
  rw [List.getElem?_append_left]
  · exact h
  · exact (List.getElem?_eq_some_iff.1 h).1

theorem V.mono {S S' : Snap} {Om Om' : List OwnE} (hx : Ext S Om S' Om') {ι : List Nat} {a : AV} {v : Value} (h : V S Om ι a v) : ∀ {ι' : List Nat}, ι <+: ι' → V S' Om' ι' a v := by
  induction h with
  | val v => intro ι' _; exact .val v
  | top v => intro ι' _; exact .top v
  | ptr h => intro ι' hp; exact .ptr (prefix_get hp h)
  | eptr us hl hS hV ih => intro ι' _; exact .eptr us hl (fun j u hu => hx.snap _ _ _ (hS j u hu)) (fun j c u hc hu => ih j c u hc hu (List.prefix_refl _))
  | empty ht => intro ι' _; exact .empty (ht.mono hx)
  | slice us hl hsz hes hS hV hc ht ih =>
    intro ι' _
    exact .slice us hl hsz hes (fun i u j x hu hx' => hx.snap _ _ _ (hS i u j x hu hx')) (fun i e u j c x h1 h2 h3 h4 => ih i e u j c x h1 h2 h3 h4 (List.prefix_refl _)) hc (ht.mono hx)
  | mslice h hc => intro ι' hp; exact .mslice (prefix_get hp h) hc
  | row he hr hm hn => intro ι' hp; exact .row (hx.row he hr) hr hm hn
  | rptr he hr hm => intro ι' hp; exact .rptr (hx.row he hr) hr hm
  | mapr he hr hm => intro ι' hp; exact .mapr (hx.row he hr) hr hm
  | func us hl hV ih => intro ι' hp; exact .func us hl (fun j c u hc hu => ih j c u hc hu hp)
  | iface h ih => intro ι' hp; exact .iface (ih hp)
  | agg us hl hV ih => intro ι' hp; exact .agg us hl (fun j c u hc hu => ih j c u hc hu hp)
  | tuple us hl hV ih => intro ι' hp; exact .tuple us hl (fun j c u hc hu => ih j c u hc hu hp)

/-- does a value lead to boxes below n alone? -/
inductive Below (n : Nat) : AV → Prop
  | val (v : Value) : Below n (.val v)
  | top : Below n .top
  | ptr {i off : Nat} (h : i < n) : Below n (.ptr i off)
  | eptr (cs : List AV) : Below n (.eptr cs)
  | slice (es : List (List AV)) (tag : Tag) : Below n (.slice es tag)
  | mslice {i off len cap : Nat} (h : i < n) : Below n (.mslice i off len cap)
  | row (g off k : Nat) : Below n (.row g off k)
  | rptr (g k f : Nat) : Below n (.rptr g k f)
  | mapr (g : Nat) : Below n (.mapr g)
  | func {f : FuncId} {caps : List AV} (h : ∀ c ∈ caps, Below n c) : Below n (.func f caps)
  | iface {t : TypeId} {a : AV} (h : Below n a) : Below n (.iface t a)
  | agg {cs : List AV} (h : ∀ c ∈ cs, Below n c) : Below n (.agg cs)
  | tuple {vs : List AV} (h : ∀ c ∈ vs, Below n c) : Below n (.tuple vs)

theorem V.take {S : Snap} {Om : List OwnE} {ι : List Nat} {a : AV} {v : Value} {n : Nat} (h : V S Om ι a v) : Below n a → V S Om (ι.take n) a v := by
  induction h with
  | val v => intro _; exact .val v
  | top v => intro _; exact .top v
  | ptr h => intro hb; cases hb with | ptr hi => exact .ptr (by rw [List.getElem?_take_of_lt hi]; exact h)
  | eptr us hl hS hV ih => intro _; exact .eptr us hl hS hV
  | empty ht => intro _; exact .empty ht
  | slice us hl hsz hes hS hV hc ht ih => intro _; exact .slice us hl hsz hes hS hV hc ht
  | mslice h hc => intro hb; cases hb with | mslice hi => exact .mslice (by rw [List.getElem?_take_of_lt hi]; exact h) hc
  | row he hr hm hn => intro _; exact .row he hr hm hn
  | rptr he hr hm => intro _; exact .rptr he hr hm
  | mapr he hr hm => intro _; exact .mapr he hr hm
  | func us hl hV ih => intro hb; cases hb with | func hb => exact .func us hl (fun j c u hc hu => ih j c u hc hu (hb c (List.mem_of_getElem? hc)))
  | iface h ih => intro hb; cases hb with | iface hb => exact .iface (ih hb)
  | agg us hl hV ih => intro hb; cases hb with | agg hb => exact .agg us hl (fun j c u hc hu => ih j c u hc hu (hb c (List.mem_of_getElem? hc)))
  | tuple us hl hV ih => intro hb; cases hb with | tuple hb => exact .tuple us hl (fun j c u hc hu => ih j c u hc hu (hb c (List.mem_of_getElem? hc)))

/-- a computed look: leads a value to boxes below n alone? -/
def belowB (n : Nat) : AV → Bool
  | .val _ | .top | .eptr _ | .slice _ _ | .row .. | .rptr .. | .mapr .. => true
  | .ptr i _ => i < n
  | .mslice i _ _ _ => i < n
  | .func _ caps => caps.all cap
  | .iface _ a => match a with | .agg cs => cs.all leaf | .val _ | .top | .slice _ _ | .eptr _ | .row .. | .rptr .. | .mapr .. => true | .ptr i _ => i < n | _ => false
  | .agg cs => cs.all leaf
  | .tuple vs => vs.all fun v => match v with | .agg cs => cs.all leaf | v => leaf v
where
  cap : AV → Bool
  | .ptr i _ => i < n
  | .val _ | .top | .slice _ _ | .eptr _ | .row .. | .rptr .. | .mapr .. => true
  | .mslice i _ _ _ => i < n
  | _ => false
  leaf : AV → Bool
  | .val _ | .top | .eptr _ | .slice _ _ | .row .. | .rptr .. | .mapr .. => true
  | .ptr i _ => i < n
  | .mslice i _ _ _ => i < n
  | .func _ caps => caps.all cap
  | _ => false

theorem below_caps {n : Nat} {caps : List AV} (h : caps.all (belowB.cap n) = true) : ∀ c ∈ caps, Below n c := by
  intro c hc
  have := List.all_eq_true.1 h c hc
  cases c <;> simp [belowB.cap] at this <;> first | exact .val _ | exact .top | exact .eptr _ | exact .slice _ _ | exact .ptr this | exact .mslice this | exact .row _ _ _ | exact .rptr _ _ _ | exact .mapr _

theorem below_leaf {n : Nat} {a : AV} (h : belowB.leaf n a = true) : Below n a := by
  cases a <;> simp only [belowB.leaf] at h <;> first | exact .val _ | exact .top | exact .eptr _ | exact .slice _ _ | exact .ptr (of_decide_eq_true h) | exact .mslice (of_decide_eq_true h) | exact .func (below_caps h) | exact .row _ _ _ | exact .rptr _ _ _ | exact .mapr _ | cases h

theorem below_of {n : Nat} {a : AV} (h : belowB n a = true) : Below n a := by
  cases a with
  | val v => exact .val v
  | top => exact .top
  | ptr i off => exact .ptr (by simpa [belowB] using h)
  | eptr cs => exact .eptr cs
  | slice es t => exact .slice es t
  | mslice i off len cap => exact .mslice (by simpa [belowB] using h)
  | row g o k => exact .row g o k
  | rptr g k f => exact .rptr g k f
  | mapr g => exact .mapr g
  | func f caps => exact .func (below_caps h)
  | iface t a =>
    refine .iface ?_
    cases a <;> simp [belowB] at h <;> first | exact .val _ | exact .top | exact .eptr _ | exact .slice _ _ | exact .ptr h | exact .agg (fun c hc => below_leaf (h c hc)) | exact .row _ _ _ | exact .rptr _ _ _ | exact .mapr _
  | agg cs => exact .agg (fun c hc => below_leaf (by simp [belowB] at h; exact h c hc))
  | tuple vs =>
    refine .tuple fun c hc => ?_
    simp only [belowB, List.all_eq_true] at h
    have hh := h c hc
    cases c <;> first | exact below_leaf hh | exact .agg (fun d hd => below_leaf (List.all_eq_true.1 hh d hd))

/-- what stays: frozen blocks (may they be told in the snapshot?), the outside, what was written -/
structure Base where
  obj : Nat → Option (Obj × Bool)
  os : Os
  out : Array (Nat × ByteArray)
instance : CoeFun Base (fun _ => Nat → Option (Obj × Bool)) := ⟨Base.obj⟩

structure Kw where
  S : Snap
  Om : List OwnE
  ι : List Nat
  base : Base

structure AState where
  boxes : List (List AV)
  lens : List Nat
  rows : List (Nat × List (List AV)) := []

/-- what a row holds that is live -/
def rowL : List (Nat × List (List AV)) → Nat → Option (List (List AV))
  | [], _ => none
  | (g, es) :: r, g' => if g = g' then some es else rowL r g'

structure Kw.le (K K' : Kw) : Prop where
  ext : Ext K.S K.Om K'.S K'.Om
  pre : K.ι <+: K'.ι
  base : K.base = K'.base

theorem Kw.le.refl (K : Kw) : K.le K := ⟨.refl _ _, List.prefix_refl _, rfl⟩
theorem Kw.le.trans {K K' K'' : Kw} (h : K.le K') (h' : K'.le K'') : K.le K'' := ⟨h.ext.trans h'.ext, h.pre.trans h'.pre, h.base.trans h'.base⟩

abbrev Kw.V (K : Kw) (a : AV) (v : Value) : Prop := Go.Ab.V K.S K.Om K.ι a v
theorem Kw.V.mono {K K' : Kw} (h : K.le K') {a : AV} {v : Value} (hv : K.V a v) : K'.V a v := Go.Ab.V.mono h.ext hv h.pre

/-- a live row's, or a map's, block -/
def RowMem (K : Kw) (w : World) (es : List (List AV)) (e : OwnE) : Prop :=
  if e.map = true then ∃ (ents : Array MapEntry) (clock : Nat), w.heap[e.blk]? = some (.map ents clock) ∧ ents.size = es.length ∧
    (∀ (i : Nat) (el : List AV) (x : MapEntry), es[i]? = some el → ents[i]? = some x → el = [.val x.key, .val x.val]) ∧ Go.MapKept.Stamped ents clock
  else es.length = e.len ∧ e.len ≤ e.cap ∧ ∃ (arr : Array Value) (ty : TypeId), w.heap[e.blk]? = some (.cells arr ty (0, 0)) ∧ arr.size = e.cap * e.sz ∧
    (∀ (i : Nat) (el : List AV), es[i]? = some el → el.length = e.sz) ∧
    ∀ (i : Nat) (el : List AV) (j : Nat) (c : AV) (u : Value), es[i]? = some el → el[j]? = some c → arr[i * e.sz + j]? = some u → V K.S K.Om [] c u

/-- a live row in memory -/
structure RowIn (K : Kw) (w : World) (g : Nat) (es : List (List AV)) (e : OwnE) : Prop where
  om : K.Om[g]? = some e
  isrow : e.row = true
  base : K.base e.blk = none
  noι : e.blk ∉ K.ι
  noS : ∀ o, K.S e.blk o = none
  noOwn : ∀ (g' : Nat) (e' : OwnE), K.Om[g']? = some e' → e'.live = true → e'.blk ≠ e.blk
  heap : RowMem K w es e

theorem RowIn.cells {K : Kw} {w : World} {g : Nat} {es : List (List AV)} {e : OwnE} (h : RowIn K w g es e) (hm : e.map = false) : es.length = e.len ∧ e.len ≤ e.cap ∧ ∃ (arr : Array Value) (ty : TypeId), w.heap[e.blk]? = some (.cells arr ty (0, 0)) ∧ arr.size = e.cap * e.sz ∧
    (∀ (i : Nat) (el : List AV), es[i]? = some el → el.length = e.sz) ∧
    ∀ (i : Nat) (el : List AV) (j : Nat) (c : AV) (u : Value), es[i]? = some el → el[j]? = some c → arr[i * e.sz + j]? = some u → V K.S K.Om [] c u := by
  have := h.heap
  unfold RowMem at this
  rwa [if_neg (by rw [hm]; simp)] at this

theorem RowIn.ents {K : Kw} {w : World} {g : Nat} {es : List (List AV)} {e : OwnE} (h : RowIn K w g es e) (hm : e.map = true) : ∃ (ents : Array MapEntry) (clock : Nat), w.heap[e.blk]? = some (.map ents clock) ∧ ents.size = es.length ∧
    (∀ (i : Nat) (el : List AV) (x : MapEntry), es[i]? = some el → ents[i]? = some x → el = [.val x.key, .val x.val]) ∧ Go.MapKept.Stamped ents clock := by
  have := h.heap
  unfold RowMem at this
  rwa [if_pos hm] at this

structure Sat (K : Kw) (A : AState) (w : World) : Prop where
  cells : ∀ b o v, K.S b o = some v → w.cell? ⟨b, o, none⟩ = some v
  nbox : K.ι.length = A.boxes.length
  box : ∀ (i b : Nat) (cs : List AV), K.ι[i]? = some b → A.boxes[i]? = some cs → ∃ (arr : Array Value) (ty : TypeId), w.heap[b]? = some (.cells arr ty (0, 0)) ∧ cs.length ≤ arr.size ∧
    ∀ (j : Nat) (c : AV) (u : Value), cs[j]? = some c → arr[j]? = some u → V K.S K.Om (K.ι.take i) c u
  boxS : ∀ b ∈ K.ι, ∀ o, K.S b o = none
  boxBase : ∀ b ∈ K.ι, K.base b = none
  nodup : K.ι.Nodup
  lens : K.Om.map (·.len) = A.lens
  own : ∀ (g : Nat) (e : OwnE), K.Om[g]? = some e → e.live = true → 0 < e.len ∧ K.base e.blk = none ∧ e.blk ∉ K.ι ∧ e.len ≤ e.cap ∧
    (∃ (arr : Array Value) (ty : TypeId), w.heap[e.blk]? = some (.cells arr ty (0, 0)) ∧ arr.size = e.cap * e.sz) ∧ ∀ o, e.len * e.sz ≤ o → K.S e.blk o = none
  ownD : ∀ (g g' : Nat) (e e' : OwnE), K.Om[g]? = some e → K.Om[g']? = some e' → e.live = true → e'.live = true → e.blk = e'.blk → g = g'
  rows : ∀ (g : Nat) (es : List (List AV)), rowL A.rows g = some es → ∃ e, RowIn K w g es e
  rowsD : ∀ (g g' : Nat) (es es' : List (List AV)) (e e' : OwnE), rowL A.rows g = some es → rowL A.rows g' = some es' → K.Om[g]? = some e → K.Om[g']? = some e' → e.blk = e'.blk → g = g'
  baseEq : ∀ (b : Nat) (o : Obj × Bool), K.base b = some o → w.heap[b]? = some o.1
  baseS : ∀ (b : Nat) (o : Obj × Bool), K.base b = some o → o.2 = true → ∀ i, K.S b i = none
  osEq : w.os = K.base.os ∧ w.output = K.base.out

theorem cell_of_heap {w w' : World} {b o : Nat} (h : w'.heap[b]? = w.heap[b]?) : w'.cell? ⟨b, o, none⟩ = w.cell? ⟨b, o, none⟩ := by simp [World.cell?, h]

theorem lt_of_heap {w : World} {b : Nat} {o : Obj} (h : w.heap[b]? = some o) : b < w.heap.size := (Array.getElem?_eq_some_iff.1 h).1

theorem Sat.base_new {K : Kw} {A : AState} {w : World} (h : Sat K A w) : K.base w.heap.size = none := by
  cases hb : K.base w.heap.size with
  | none => rfl
  | some o => exact absurd (lt_of_heap (h.baseEq _ o hb)) (Nat.lt_irrefl _)

theorem Sat.S_lt {K : Kw} {A : AState} {w : World} (h : Sat K A w) {b o : Nat} {v : Value} (hs : K.S b o = some v) : b < w.heap.size := World.block_lt_of_cell? w ⟨b, o, none⟩ (h.cells b o v hs)

theorem Sat.ι_lt {K : Kw} {A : AState} {w : World} (h : Sat K A w) {b : Nat} (hb : b ∈ K.ι) : b < w.heap.size := by
  obtain ⟨i, hi⟩ := List.mem_iff_getElem?.1 hb
  have hlt : i < A.boxes.length := by rw [← h.nbox]; exact (List.getElem?_eq_some_iff.1 hi).1
  obtain ⟨arr, ty, hh, _⟩ := h.box i b A.boxes[i] hi (List.getElem?_eq_getElem hlt)
  exact lt_of_heap hh

theorem Sat.own_lt {K : Kw} {A : AState} {w : World} (h : Sat K A w) {g : Nat} {e : OwnE} (he : K.Om[g]? = some e) (hlv : e.live = true) : e.blk < w.heap.size := by
  obtain ⟨_, _, _, _, ⟨arr, ty, hh, _⟩, _⟩ := h.own g e he hlv
  exact lt_of_heap hh

theorem RowIn.lt {K : Kw} {w : World} {g : Nat} {es : List (List AV)} {e : OwnE} (h : RowIn K w g es e) : e.blk < w.heap.size := by
  by_cases hm : e.map = true
  · obtain ⟨ents, clock, hh, _⟩ := h.ents hm
    exact lt_of_heap hh
  · obtain ⟨_, _, arr, ty, hh, _⟩ := h.cells (by simpa using hm)
    exact lt_of_heap hh

/-- a live row stays where its block is as it was -/
theorem RowIn.keep {K K' : Kw} {w w' : World} {g : Nat} {es : List (List AV)} {e : OwnE} (h : RowIn K w g es e) (hx : Ext K.S K.Om K'.S K'.Om) (hb : K'.base = K.base) (hh : w'.heap[e.blk]? = w.heap[e.blk]?)
    (hι : e.blk ∉ K'.ι) (hS : ∀ o, K'.S e.blk o = none) (hO : ∀ (g' : Nat) (e' : OwnE), K'.Om[g']? = some e' → e'.live = true → e'.blk ≠ e.blk) : RowIn K' w' g es e where
  om := hx.row h.om h.isrow
  isrow := h.isrow
  base := by rw [hb]; exact h.base
  noι := hι
  noS := hS
  noOwn := hO
  heap := by
    by_cases hm : e.map = true
    · obtain ⟨ents, clock, h1, h2, h3⟩ := h.ents hm
      unfold RowMem
      rw [if_pos hm]
      exact ⟨ents, clock, by rw [hh]; exact h1, h2, h3⟩
    · have hm' : e.map = false := by simpa using hm
      obtain ⟨h5, h6, arr, ty, h1, h2, h3, h4⟩ := h.cells hm'
      unfold RowMem
      rw [if_neg hm]
      exact ⟨h5, h6, arr, ty, by rw [hh]; exact h1, h2, h3, fun i el j c u g1 g2 g3 => V.mono hx (h4 i el j c u g1 g2 g3) (List.prefix_refl _)⟩

/-- memory has grown, and what was there is as it was -/
theorem Sat.grow {K : Kw} {A : AState} {w w' : World} (h : Sat K A w) (hb : ∀ b, b < w.heap.size → w'.heap[b]? = w.heap[b]?) (hs : w.heap.size ≤ w'.heap.size) (hos : w'.os = w.os ∧ w'.output = w.output := by exact ⟨rfl, rfl⟩) : Sat K A w' where
  cells := fun b o v hv => by rw [cell_of_heap (hb b (h.S_lt hv))]; exact h.cells b o v hv
  nbox := h.nbox
  box := fun i b cs hi hc => by
    obtain ⟨arr, ty, hh, rest⟩ := h.box i b cs hi hc
    exact ⟨arr, ty, by rw [hb b (lt_of_heap hh)]; exact hh, rest⟩
  boxS := h.boxS
  boxBase := h.boxBase
  nodup := h.nodup
  lens := h.lens
  own := fun g e he hlv => by
    obtain ⟨h0, h1, h2, h3, ⟨arr, ty, hh, h4⟩, h5⟩ := h.own g e he hlv
    exact ⟨h0, h1, h2, h3, ⟨arr, ty, by rw [hb _ (lt_of_heap hh)]; exact hh, h4⟩, h5⟩
  ownD := h.ownD
  rows := fun g es hg => by
    obtain ⟨e, hr⟩ := h.rows g es hg
    exact ⟨e, hr.keep (.refl _ _) rfl (hb _ hr.lt) hr.noι hr.noS hr.noOwn⟩
  rowsD := h.rowsD
  baseEq := fun b o ho => by rw [hb b (lt_of_heap (h.baseEq b o ho))]; exact h.baseEq b o ho
  baseS := h.baseS
  osEq := ⟨hos.1.trans h.osEq.1, hos.2.trans h.osEq.2⟩

theorem halloc_old (w : World) (o : Obj) {b : Nat} (hb : b < w.heap.size) : (w.alloc o).heap[b]? = w.heap[b]? := by
  show (w.heap.push o)[b]? = _
  rw [Array.getElem?_push, if_neg (Nat.ne_of_lt hb)]

theorem halloc_new (w : World) (o : Obj) : (w.alloc o).heap[w.heap.size]? = some o := by
  show (w.heap.push o)[w.heap.size]? = _
  rw [Array.getElem?_push, if_pos rfl]

theorem Sat.alloc {K : Kw} {A : AState} {w : World} (h : Sat K A w) (o : Obj) : Sat K A (w.alloc o) :=
  h.grow (fun b hb => halloc_old w o hb) (by simp)

theorem Sat.drew {K : Kw} {A : AState} {w : World} (h : Sat K A w) : Sat K A w.drew :=
  h.grow (fun _ _ => rfl) (Nat.le_refl _)

/-- a new box -/
theorem Sat.newBox {K : Kw} {A : AState} {w : World} (h : Sat K A w) (arr : Array Value) (ty : TypeId) (cs : List AV) (hl : cs.length ≤ arr.size)
    (hV : ∀ (j : Nat) (c : AV) (u : Value), cs[j]? = some c → arr[j]? = some u → K.V c u) :
    K.le { K with ι := K.ι ++ [w.heap.size] } ∧ Sat { K with ι := K.ι ++ [w.heap.size] } { A with boxes := A.boxes ++ [cs] } (w.alloc (.cells arr ty)) := by
  have h1 := h.alloc (.cells arr ty)
  have hnew : (w.alloc (.cells arr ty)).heap[w.heap.size]? = some (.cells arr ty (0, 0)) := halloc_new w _
  refine ⟨⟨.refl _ _, List.prefix_append _ _, rfl⟩, ?_⟩
  refine { cells := h1.cells, nbox := by simp [h.nbox], box := ?_, boxS := ?_, boxBase := ?_, nodup := ?_, lens := h.lens, own := ?_, ownD := h.ownD, rows := ?_, rowsD := h.rowsD, baseEq := h1.baseEq, baseS := h1.baseS, osEq := h1.osEq }
  · intro i b cs' hi hc
    simp only at hi hc
    by_cases hlt : i < K.ι.length
    · rw [List.getElem?_append_left hlt] at hi
      rw [List.getElem?_append_left (by rw [← h.nbox]; exact hlt)] at hc
      obtain ⟨arr', ty', hh, hsz, hr⟩ := h1.box i b cs' hi hc
      refine ⟨arr', ty', hh, hsz, ?_⟩
      rw [List.take_append_of_le_length (Nat.le_of_lt hlt)]
      exact hr
    · have hge : K.ι.length ≤ i := by omega
      rw [List.getElem?_append_right hge] at hi
      rw [List.getElem?_append_right (by rw [← h.nbox]; exact hge), ← h.nbox] at hc
      have hi0 : i - K.ι.length = 0 := by
        rcases Nat.eq_zero_or_pos (i - K.ι.length) with h0 | h0
        · exact h0
        · rw [List.getElem?_eq_none (by simp; omega)] at hi; cases hi
      rw [hi0] at hi hc
      simp at hi hc
      subst hi; subst hc
      have hieq : i = K.ι.length := by omega
      refine ⟨arr, ty, hnew, hl, ?_⟩
      intro j c u hc hu
      have hv := hV j c u hc hu
      rw [hieq, List.take_append_of_le_length (Nat.le_refl _), List.take_length]
      exact hv
  · intro b hb o
    rcases List.mem_append.1 hb with hb | hb
    · exact h.boxS b hb o
    · simp at hb
      subst hb
      cases hs : K.S w.heap.size o with
      | none => rfl
      | some v => exact absurd (h.S_lt hs) (Nat.lt_irrefl _)
  · intro b hb
    rcases List.mem_append.1 hb with hb | hb
    · exact h.boxBase b hb
    · simp at hb; subst hb; exact h.base_new
  · refine List.nodup_append.2 ⟨h.nodup, by simp, ?_⟩
    intro x hx y hy
    simp at hy
    subst hy
    exact Nat.ne_of_lt (h.ι_lt hx)
  · intro g e he hlv
    obtain ⟨h0, h2, h3, h4, h5, h6⟩ := h1.own g e he hlv
    refine ⟨h0, h2, ?_, h4, h5, h6⟩
    intro hm
    rcases List.mem_append.1 hm with hm | hm
    · exact h3 hm
    · simp at hm
      exact absurd (h.own_lt he hlv) (by rw [hm]; exact Nat.lt_irrefl _)
  · intro g es hg
    obtain ⟨e, hr⟩ := h.rows g es hg
    refine ⟨e, hr.keep (.refl _ _) rfl (halloc_old w _ hr.lt) ?_ hr.noS hr.noOwn⟩
    intro hm
    rcases List.mem_append.1 hm with hm | hm
    · exact hr.noι hm
    · simp at hm
      exact absurd hr.lt (by rw [hm]; exact Nat.lt_irrefl _)

end Go.Ab
