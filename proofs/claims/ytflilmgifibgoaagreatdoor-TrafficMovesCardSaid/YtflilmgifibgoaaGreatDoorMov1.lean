/- TrafficMoves This is part 1 of 10. Conditions: those in the statements. -/
import Derived.WalkKit
import Derived.WalkLawsBesides
import Derived.RegionTactic
import Derived.Laws.StructEq
import Derived.Orders
import Derived.Sort.Walk0
import Derived.MapKept
import GoSem.Instr.MapUpdate
import Derived.Sort.OwnSorted
import Derived.Lib.OwnBridge
import Derived.Lib.SlicesCompact
import Derived.Scope
import Derived.WalkSpells
import Derived.Maps.RangeRun
import Derived.Lib.OthersKept
import Derived.Laws.BytesArg
import Derived.ChangeKeysEq
import Derived.Laws.Pointers
noncomputable section
set_option maxRecDepth 100000
section
namespace Go.Fl
open Go Go.RowKit
abbrev Fr:=Nat->Value
def upd(f:Fr)(d:Nat)(v:Value):Fr:=fun k=>bif Nat.beq k d then v else f k
def mk(n:Nat)(f:Fr):Act:=⟨Array.ofFn (n:=n) fun i=>f i.val,[]⟩
def ev(n:Nat)(f:Fr):Operand->Value
  | .tmp t=>bif Nat.blt t n then f t else undef
  | .const v=>v
  | .global g=> .pointer (some ⟨g,0,none⟩)
  | .func k=> .func (.func k) #[] #[]
def frl:List Value->Fr
  |[],_=>undef
  |v::_,0=>v
  |_::l,k+1=>frl l k
theorem v45(n:Nat)(f:Fr)(t:Nat):(mk n f).tmps.getD t undef=if t<n then f t else undef:=by
  rw[Array.getD_eq_getD_getElem?]
  by_cases h:t<n
  · rw[if_pos h];simp[mk,h]
  · rw[if_neg h,Array.getElem?_eq_none (by simp[mk];omega)];rfl
theorem U6(n:Nat)(f:Fr):(mk n f).eval=ev n f:=by
  funext x
  cases x with
  |tmp t=>
    show (mk n f).tmps.getD t undef=ev n f (.tmp t)
    rw[v45]
    simp only[ev]
    by_cases h:t<n
    · have hb:Nat.blt t n=true:=by rw[Nat.blt_eq];exact h
      rw[if_pos h,hb];rfl
    · rw[if_neg h]
      have:Nat.blt t n=false:=by
        cases hb:Nat.blt t n
        · rfl
        · exact absurd (by rw[Nat.blt_eq] at hb;exact hb) h
      rw[this];rfl
  |const v=>rfl
  |global g=>rfl
  |func k=>rfl
theorem j44(n:Nat)(f:Fr)(d:Nat)(v:Value):(mk n f).put (some d) v=mk n (upd f d v):=by
  simp only[Act.put,mk]
  congr 1
  apply Array.ext
  · simp
  · intro i h1 h2
    simp only[Array.getElem_ofFn,upd]
    rw[Array.getElem_setIfInBounds (by simpa using h1)]
    by_cases h:d=i
    · subst h;simp
    · have:Nat.beq i d=false:=by
        cases hb:Nat.beq i d
        · rfl
        · exact absurd (Nat.eq_of_beq_eq_true hb).symm h
      rw[if_neg h,this];simp
theorem w3y(n:Nat)(f:Fr)(v:Value):(mk n f).put none v=mk n f:=rfl
theorem v1l{f:Fr}{d:Nat}{v:Value}(h:f d=v):f=upd f d v:=by
  funext k
  simp only[upd]
  cases hb:Nat.beq k d
  · rfl
  · rw[Nat.eq_of_beq_eq_true hb,h];rfl
theorem Q6{f g:Fr}{d:Nat}{v:Value}(h:f d=v)(hg:f=g):f=upd g d v:=hg▸v1l (hg▸h)
theorem v38(args:List Value)(k:Nat):frl args k=args.getD k undef:=by
  induction args generalizing k with
  |nil=>rfl
  |cons a l ih=>cases k with
    |zero=>rfl
    |succ k=>simpa [frl] using ih k
theorem v1m{n:Nat}(args:Array Value)(h:args.size<=n):
    ({tmps:=args++Array.replicate (n - args.size) undef,defers:=[]}:Act)=mk n (frl args.toList):=by
  simp only[mk]
  congr 1
  apply Array.ext
  · simp;omega
  · intro i h1 h2
    simp only[Array.getElem_ofFn,v38,Array.getElem_append]
    split
    · rename_i hi
      simp[List.getD,hi]
    · rename_i hi
      simp[List.getD,Array.getElem_replicate]
      rw[Array.getElem?_eq_none (by omega)];rfl
variable {P:Program}
theorem enter{f:FuncId}{fn:Func}{c:Code}{args:Array Value}{n:Nat}{w:World}{R:Ending->World->Prop}
    (hf:P.funcs[f]? =some fn)(hb:fn.body=some c)(hn:fn.ntmps=n)(hs:Nat.ble args.size n=true)
    (h:c.wp P (bodyPost P fn R) (mk n (frl args.toList)) w):Calls P f args w R:=by
  refine calls_of_wp hf hb ?_
  subst hn
  rw[v1m args (Nat.le_of_ble_eq_true hs)]
  exact h
theorem z87{n:Nat}{f:Fr}{t:Tmp}{v:Value}(hv:ev n f (.tmp t)=v):(mk n f).tmps.getD t undef=v:=by
  have:(mk n f).eval (.tmp t)=v:=by rw[U6];exact hv
  exact this
theorem ret1{fn:Func}{R:Ending->World->Prop}{n:Nat}{f:Fr}{w:World}{t:Tmp}{v:Value}(h:fn.results= #[.tmp t])
    (hv:ev n f (.tmp t)=v)(hR:R (.returned v) w):bodyPost P fn R .ret (mk n f) w:=
  bodyPost_ret (results_tmp h _ _ _) rfl (by rw[z87 hv];exact hR)
theorem v39{fn:Func}{R:Ending->World->Prop}{n:Nat}{f:Fr}{w:World}{t:Tmp}{ty:TypeId}{g:Nat}{tt:TypeId}{cs:Array Value}{d:TypeDesc}
    (h:fn.results= #[.cell t ty])(hv:ev n f (.tmp t)= .pointer (some ⟨g,0,none⟩))(hg:w.heap[g]? =some (.cells cs tt (0,0)))
    (hu:P.underlying ty=some d)(hd:(match d with| .struct _| .array _ _=>true|_=>false)=true)(hi:(P.info? ty).map (·.size)=some cs.size)
    (hR:R (.returned (.agg cs)) w):bodyPost P fn R .ret (mk n f) w:=
  bodyPost_ret (results_cell_row h _ w g tt cs (0,0) d (z87 hv) hg hu hd hi) rfl hR
section code
variable {Q:Exit->Act->World->Prop}{n:Nat}{f:Fr}{w:World}
theorem Qn{id:Nat}{ops:Array Oper}{y:Code}(h:wpList P ops (Exit.then (y.wp P Q) Q) ops.toList (mk n f) w):
    (Code.seq (.region id ops false) y).wp P Q (mk n f) w:=wp_seq (wp_region_list h)
theorem G6{id:Nat}{ops:Array Oper}(h:wpList P ops Q ops.toList (mk n f) w):
    (Code.region id ops false).wp P Q (mk n f) w:=wp_region_list h
theorem if_d{c:Operand}{x y:Code}(p:Prop)[Decidable p](hc:ev n f c= .bool (decide p))(ht:p->x.wp P Q (mk n f) w)(hf: ¬p->y.wp P Q (mk n f) w):
    (Code.cond c x y).wp P Q (mk n f) w:=by
  by_cases h:p
  · exact wp_cond_true (by rw[U6,hc,decide_eq_true h]) (ht h)
  · exact wp_cond_false (by rw[U6,hc,decide_eq_false h]) (hf h)
theorem if_b{c:Operand}{x y:Code}{b:Bool}(hc:ev n f c= .bool b)(ht:b=true->x.wp P Q (mk n f) w)(hf:b=false->y.wp P Q (mk n f) w):
    (Code.cond c x y).wp P Q (mk n f) w:=by
  cases b
  · exact wp_cond_false (by rw[U6,hc]) (hf rfl)
  · exact wp_cond_true (by rw[U6,hc]) (ht rfl)
theorem if_t{c:Operand}{x y:Code}(hc:ev n f c= .bool true)(ht:x.wp P Q (mk n f) w):(Code.cond c x y).wp P Q (mk n f) w:=
  wp_cond_true (by rw[U6,hc]) ht
theorem if_f{c:Operand}{x y:Code}(hc:ev n f c= .bool false)(hf:y.wp P Q (mk n f) w):(Code.cond c x y).wp P Q (mk n f) w:=
  wp_cond_false (by rw[U6,hc]) hf
theorem loop{c:Code}(I:Nat->Fr->World->Prop){m0:Nat}(h0:I m0 f w)
    (round: ∀m f w,I m f w->c.wp P (Exit.then (fun a' w'=> ∃m' f',a'=mk n f'/\I m' f' w'/\m'<m) Q) (mk n f) w):
    (Code.loop c).wp P Q (mk n f) w:=by
  intro b k cs
  have key: ∀m f w,I m f w->
      ∃e a' w',Q e a' w'/\Arrives P (lone (b.at (mk n f) (.code c:: .inLoop c::k)) cs w) b k cs e a' w':=by
    intro m
    induction m using Nat.strongRecOn with
    |_ m ih=>
      intro f w hI
      obtain⟨e,a₁,w₁,hq,harr⟩:=round m f w hI b (.inLoop c::k) cs
      cases e with
      |normal=>
        obtain⟨m',f',rfl,hI₁,hlt⟩:=hq
        obtain⟨e₂,a₂,w₂,hq₂,harr₂⟩:=ih m' hlt f' w₁ hI₁
        exact⟨e₂,a₂,w₂,hq₂,.of_steps (Steps.trans harr (.one step_inLoop)) harr₂⟩
      |exit id=>exact⟨_,a₁,w₁,hq,.pass (x:= .inLoop c) rfl (fun _ _=> .inl (by simp)) harr⟩
      |goto l=>exact⟨_,a₁,w₁,hq,.pass (x:= .inLoop c) rfl (fun _ _=> .inl (by simp)) harr⟩
      |ret=>exact⟨_,a₁,w₁,hq,.pass (x:= .inLoop c) rfl (fun _ _=> .inl (by simp)) harr⟩
      |panic ch=>exact⟨_,a₁,w₁,hq,.pass (x:= .inLoop c) rfl (fun _ _=> .inl (by simp)) harr⟩
      |outgrown=>exact⟨_,a₁,w₁,hq,.pass (x:= .inLoop c) rfl (fun _ _=> .inl (by simp)) harr⟩
  obtain⟨e,a',w',hq,harr⟩:=key m0 f w h0
  exact⟨e,a',w',hq,.of_steps (.one step_loop) harr⟩
theorem cut{x y:Code}(M:Fr->World->Prop)(h:x.wp P (Exit.then (fun a w=> ∃f,a=mk n f/\M f w) Q) (mk n f) w)
    (hy: ∀f w,M f w->y.wp P Q (mk n f) w):(Code.seq x y).wp P Q (mk n f) w:=by
  refine wp_seq (Code.wp_mono ?_ h)
  intro e a w hq
  cases e with
  |normal=>obtain⟨f',rfl,hM⟩:=hq;exact hy _ _ hM
  |_=>exact hq
end code
attribute [irreducible] mk
end Go.Fl
end
section
namespace Go.Fl
open Go Go.RowKit
abbrev Hv:=Nat->Option Obj
def Hv.cell(σ:Hv)(a:Addr):Option Value:=
  match σ a.block with
  |some (.cells c _ _)=>if a.spot.isSome then none else c[a.off]?
  |_=>none
def Sub(σ τ:Hv):Prop:= ∀b o,σ b=some o->τ b=some o
def View(σ:Hv)(w:World):Prop:= ∀b o,σ b=some o->w.heap[b]? =some o
theorem Sub.refl(σ:Hv):Sub σ σ:=fun _ _ h=>h
theorem Sub.trans{a b c:Hv}(h:Sub a b)(k:Sub b c):Sub a c:=fun x o hx=>k x o (h x o hx)
theorem Sub.cell{σ τ:Hv}(h:Sub σ τ){a:Addr}{v:Value}(hc:σ.cell a=some v):τ.cell a=some v:=by
  unfold Hv.cell at*
  cases hb:σ a.block with
  |none=>rw[hb] at hc;cases hc
  |some o=>rw[h _ _ hb];rw[hb] at hc;exact hc
theorem View.cell{σ:Hv}{w:World}(h:View σ w){a:Addr}{v:Value}(hc:σ.cell a=some v):w.cell? a=some v:=by
  unfold Hv.cell at hc
  unfold World.cell?
  cases hb:σ a.block with
  |none=>rw[hb] at hc;cases hc
  |some o=>rw[h _ _ hb];rw[hb] at hc;exact hc
structure Keeps(M:List Nat)(w w':World):Prop where
  os:w'.os=w.os
  tape:w'.tape=w.tape
  output:w'.output=w.output
  size:w.heap.size<=w'.heap.size
  block: ∀k,k<w.heap.size->k∉M->w'.heap[k]? =w.heap[k]?
theorem Keeps.refl(M:List Nat)(w:World):Keeps M w w:=⟨rfl,rfl,rfl,Nat.le_refl _,fun _ _ _=>rfl⟩
theorem Keeps.trans{M:List Nat}{a b c:World}(h:Keeps M a b)(k:Keeps M b c):Keeps M a c:=
  ⟨k.os.trans h.os,k.tape.trans h.tape,k.output.trans h.output,Nat.le_trans h.size k.size,
    fun i hi hm=>(k.block i (Nat.lt_of_lt_of_le hi h.size) hm).trans (h.block i hi hm)⟩
theorem Keeps.mono{M N:List Nat}{a b:World}(h:Keeps M a b)(hs: ∀k∈M,k∈N):Keeps N a b:=
  ⟨h.os,h.tape,h.output,h.size,fun i hi hm=>h.block i hi (fun hk=>hm (hs i hk))⟩
theorem Keeps.drew{M:List Nat}{a w:World}(h:Keeps M a w):Keeps M a w.drew:=⟨h.os,h.tape,h.output,h.size,h.block⟩
structure HObj where
  foot:Option Nat
  ok:World->Prop
  stay: ∀w w':World,(∀k,foot=some k->w'.heap[k]? =w.heap[k]?)->ok w->ok w'
  lt: ∀(w:World) k,ok w->foot=some k->k<w.heap.size
def blk(b:Nat)(T:TypeId)(cs:List Value):HObj where
  foot:=some b
  ok w:=w.heap[b]? =some (.cells cs.toArray T (0,0))
  stay w w' h hk:=(h b rfl).trans hk
  lt w k hk hf:=by cases hf;exact lt_of_block hk
def vec(v:Value)(T:TypeId)(size n:Nat)(xs:List Value):HObj where
  foot:=v.ownBlock
  ok w:=w.ownsRow 0 T size v n xs
  stay w w' h hk:=by
    obtain⟨h1,h2⟩:=hk
    refine⟨h1,?_⟩
    rcases h2 with h2|⟨g,cap,cur,hv,hg,hh,r⟩
    · exact Or.inl h2
    · exact Or.inr ⟨g,cap,cur,hv,hg,(h g (by rw[hv];rfl)).trans hh,r⟩
  lt w k hk hf:=by
    obtain⟨_,h2⟩:=hk
    rcases h2 with ⟨rfl,_⟩|⟨g,cap,cur,rfl,_,hh,_⟩
    · cases hf
    · cases hf;exact lt_of_block hh
structure Cx where
  w:World
  σ:Hv
  M:List Nat
structure St(c:Cx)(w:World)(σ:Hv)(ms:List HObj):Prop where
  keeps:Keeps c.M c.w w
  view:View σ w
  sub:Sub c.σ σ
  fresh: ∀b,b<c.w.heap.size->b∉c.M->σ b=c.σ b
  own: ∀o∈ms,o.ok w
  sep:ms.Pairwise (fun a b=> ∀k,a.foot=some k->b.foot≠some k)
  off: ∀o∈ms,∀k,o.foot=some k->σ k=none
  new: ∀o∈ms,∀k,o.foot=some k->k∈c.M∨c.w.heap.size<=k
structure Grow(M:List Nat)(σ:Hv)(w:World)(σ1:Hv)(w1:World):Prop where
  keeps:Keeps M w w1
  view:View σ1 w1
  sub:Sub σ σ1
  fresh: ∀b,b<w.heap.size->b∉M->σ1 b=σ b
theorem Grow.forget{M:List Nat}{σ σ1:Hv}{w w1:World}(h:Grow M σ w σ1 w1):Grow M σ w σ w1:=
  ⟨h.keeps,fun b o hb=>h.view b o (h.sub b o hb),.refl _,fun _ _ _=>rfl⟩
theorem St.done{c:Cx}{w:World}{σ:Hv}{ms:List HObj}(h:St c w σ ms):Grow c.M c.σ c.w σ w:=⟨h.keeps,h.view,h.sub,h.fresh⟩
theorem St.start{w:World}{σ:Hv}(h:View σ w):St ⟨w,σ,[]⟩ w σ []:=
  ⟨.refl _ _,h,.refl _,fun _ _ _=>rfl,by simp,by simp,by simp,by simp⟩
theorem St.start1{w:World}{σ:Hv}(h:View σ w){o:HObj}{b:Nat}(ho:o.ok w)(hf:o.foot=some b)(hσ:σ b=none):St ⟨w,σ,[b]⟩ w σ [o]:=
  ⟨.refl _ _,h,.refl _,fun _ _ _=>rfl,by simpa using ho,by simp,by simp only[List.mem_singleton];rintro o' rfl k hk;rw[hf] at hk;cases hk;exact hσ,
   by simp only[List.mem_singleton];rintro o' rfl k hk;rw[hf] at hk;cases hk;exact .inl rfl⟩
theorem St.drew{c:Cx}{w:World}{σ:Hv}{ms:List HObj}(h:St c w σ ms):St c w.drew σ ms:=
  ⟨h.keeps.drew,h.view,h.sub,h.fresh,fun o ho=>o.stay w w.drew (fun _ _=>rfl) (h.own o ho),h.sep,h.off,h.new⟩
theorem St.sublist{c:Cx}{w:World}{σ:Hv}{ms ms':List HObj}(h:St c w σ ms)(hs:ms'.Sublist ms):St c w σ ms':=
  ⟨h.keeps,h.view,h.sub,h.fresh,fun o ho=>h.own o (hs.subset ho),h.sep.sublist hs,fun o ho=>h.off o (hs.subset ho),fun o ho=>h.new o (hs.subset ho)⟩
theorem St.get{c:Cx}{w:World}{σ:Hv}{ms:List HObj}(h:St c w σ ms){i:Nat}{o:HObj}(hi:ms[i]? =some o):o.ok w:=
  h.own o (List.mem_of_getElem? hi)
theorem v47{ms:List HObj}(h:ms.Pairwise (fun a b=> ∀k,a.foot=some k->b.foot≠some k)){i:Nat}{o:HObj}
    (ho: ∀j p,ms[j]? =some p->j≠i-> ∀k,o.foot=some k->p.foot≠some k):(ms.set i o).Pairwise (fun a b=> ∀k,a.foot=some k->b.foot≠some k):=by
  rw[List.pairwise_iff_getElem] at*
  intro x y hx hy hlt
  have hx':x<ms.length:=by simpa using hx
  have hy':y<ms.length:=by simpa using hy
  rw[List.getElem_set,List.getElem_set]
  by_cases h1:i=x
  · subst h1
    rw[if_pos rfl,if_neg (by omega)]
    exact ho y _ (List.getElem?_eq_getElem hy') (by omega)
  · by_cases h2:i=y
    · subst h2
      rw[if_neg h1,if_pos rfl]
      intro k hk hk'
      exact ho x _ (List.getElem?_eq_getElem hx') (by omega) k hk' hk
    · rw[if_neg h1,if_neg h2]
      exact h x y hx' hy' hlt
theorem q9c{ms:List HObj}{i:Nat}{o p:HObj}(h:p∈ms.set i o):p=o∨ ∃j,j≠i/\ms[j]? =some p:=by
  obtain⟨j,hj⟩:=List.mem_iff_getElem?.1 h
  rw[List.getElem?_set] at hj
  by_cases hij:i=j
  · rw[if_pos hij] at hj
    split at hj
    · left;cases hj;rfl
    · cases hj
  · rw[if_neg hij] at hj
    exact .inr ⟨j,fun e=>hij e.symm,hj⟩
theorem St.apart{c:Cx}{w:World}{σ:Hv}{ms:List HObj}(h:St c w σ ms){i j:Nat}{o p:HObj}(hi:ms[i]? =some o)(hj:ms[j]? =some p)(hne:j≠i):
    ∀k,o.foot=some k->p.foot≠some k:=by
  have hs:=List.pairwise_iff_getElem.1 h.sep
  obtain⟨hil,rfl⟩:=List.getElem?_eq_some_iff.1 hi
  obtain⟨hjl,rfl⟩:=List.getElem?_eq_some_iff.1 hj
  intro k hk hk'
  rcases Nat.lt_or_gt_of_ne hne with hlt|hlt
  · exact hs j i hjl hil hlt k hk' hk
  · exact hs i j hil hjl hlt k hk hk'
theorem St.step{c:Cx}{w w':World}{σ:Hv}{ms ms':List HObj}(h:St c w σ ms){i:Nat}{o o':HObj}(hi:ms[i]? =some o)
    (hk:Keeps (o.foot.toList) w w')(ho:o'.ok w')(hf: ∀k,o'.foot=some k->o.foot=some k∨w.heap.size<=k)(hms:ms.set i o'=ms')
    (hnone: ∀k,w.heap.size<=k->σ k=none):St c w' σ ms':=by
  subst hms
  have hin:=List.mem_of_getElem? hi
  have hfar: ∀j p,j≠i->ms[j]? =some p-> ∀k,p.foot=some k->w'.heap[k]? =w.heap[k]? :=by
    intro j p hji hj k hpk
    refine hk.block k (p.lt w k (h.get hj) hpk) ?_
    intro hm
    rw[Option.mem_toList] at hm
    exact h.apart hi hj hji k hm hpk
  refine⟨?_,?_,h.sub,h.fresh,?_,?_,?_,?_⟩
  · refine⟨hk.os.trans h.keeps.os,hk.tape.trans h.keeps.tape,hk.output.trans h.keeps.output,Nat.le_trans h.keeps.size hk.size,fun k hlt hm=> ?_⟩
    refine (hk.block k (Nat.lt_of_lt_of_le hlt h.keeps.size) ?_).trans (h.keeps.block k hlt hm)
    intro hm'
    rw[Option.mem_toList] at hm'
    rcases h.new o hin k hm' with hM|hge
    · exact hm hM
    · omega
  · intro b ob hb
    have hw:=h.view b ob hb
    rw[hk.block b (lt_of_block hw) ?_]
    · exact hw
    · intro hm'
      rw[Option.mem_toList] at hm'
      rw[h.off o hin b hm'] at hb
      cases hb
  · intro p hp
    rcases q9c hp with rfl|⟨j,hji,hj⟩
    · exact ho
    · exact p.stay w w' (hfar j p hji hj) (h.get hj)
  · refine v47 h.sep fun j p hj hji k hok hpk=> ?_
    rcases hf k hok with hs|hge
    · exact h.apart hi hj hji k hs hpk
    · have:=p.lt w k (h.get hj) hpk
      omega
  · intro p hp k hpk
    rcases q9c hp with rfl|⟨j,hji,hj⟩
    · rcases hf k hpk with hs|hge
      · exact h.off o hin k hs
      · exact hnone k hge
    · exact h.off p (List.mem_of_getElem? hj) k hpk
  · intro p hp k hpk
    rcases q9c hp with rfl|⟨j,hji,hj⟩
    · rcases hf k hpk with hs|hge
      · exact h.new o hin k hs
      · exact .inr (Nat.le_trans h.keeps.size hge)
    · exact h.new p (List.mem_of_getElem? hj) k hpk
theorem View.none_of_ge{σ:Hv}{w:World}(h:View σ w): ∀k,w.heap.size<=k->σ k=none:=by
  intro k hk
  cases hb:σ k with
  |none=>rfl
  |some o=>
    have:=lt_of_block (h k o hb)
    omega
theorem St.add{c:Cx}{w w':World}{σ:Hv}{ms:List HObj}(h:St c w σ ms){o:HObj}(hk:Keeps [] w w')(ho:o.ok w')
    (hf: ∀k,o.foot=some k->w.heap.size<=k):St c w' σ (o::ms):=by
  have hfar: ∀p∈ms,∀k,p.foot=some k->w'.heap[k]? =w.heap[k]? :=fun p hp k hpk=>hk.block k (p.lt w k (h.own p hp) hpk) (by simp)
  refine⟨h.keeps.trans (hk.mono (by simp)),?_,h.sub,h.fresh,?_,?_,?_,?_⟩
  · intro b ob hb
    have hw:=h.view b ob hb
    rw[hk.block b (lt_of_block hw) (by simp)]
    exact hw
  · intro p hp
    rcases List.mem_cons.1 hp with rfl|hp
    · exact ho
    · exact p.stay w w' (hfar p hp) (h.own p hp)
  · refine List.pairwise_cons.2 ⟨fun p hp k hok hpk=> ?_,h.sep⟩
    have:=p.lt w k (h.own p hp) hpk
    have:=hf k hok
    omega
  · intro p hp k hpk
    rcases List.mem_cons.1 hp with rfl|hp
    · exact h.view.none_of_ge k (hf k hpk)
    · exact h.off p hp k hpk
  · intro p hp k hpk
    rcases List.mem_cons.1 hp with rfl|hp
    · exact .inr (Nat.le_trans h.keeps.size (hf k hpk))
    · exact h.new p hp k hpk
theorem St.addNil{c:Cx}{w:World}{σ:Hv}{ms:List HObj}(h:St c w σ ms)(T:TypeId)(size:Nat):St c w σ (vec (.slice none 0 0) T size 0 []::ms):=
  h.add (.refl _ _) (World.ownsRow_nil _ _ _ _) (by intro k hk;cases hk)
theorem St.grow{c:Cx}{w w1:World}{σ σ1:Hv}{ms:List HObj}(h:St c w σ ms)(g:Grow [] σ w σ1 w1):St c w1 σ1 ms:=by
  refine⟨h.keeps.trans (g.keeps.mono (by simp)),g.view,h.sub.trans g.sub,?_,?_,h.sep,?_,h.new⟩
  · intro b hb hm
    rw[g.fresh b (Nat.lt_of_lt_of_le hb h.keeps.size) (by simp),h.fresh b hb hm]
  · intro o ho
    exact o.stay w w1 (fun k hk=>g.keeps.block k (o.lt w k (h.own o ho) hk) (by simp)) (h.own o ho)
  · intro o ho k hk
    rw[g.fresh k (o.lt w k (h.own o ho) hk) (by simp)]
    exact h.off o ho k hk
def feet(ms:List HObj):List Nat:=ms.flatMap fun o=>o.foot.toList
theorem q0n{ms:List HObj}{k:Nat}:k∈feet ms↔ ∃o∈ms,o.foot=some k:=by
  simp[feet,Option.mem_toList]
theorem St.inner{c:Cx}{w:World}{σ:Hv}{ins rest:List HObj}(h:St c w σ (ins++rest)):St ⟨w,σ,feet ins⟩ w σ ins:=
  ⟨.refl _ _,h.view,.refl _,fun _ _ _=>rfl,fun o ho=>h.own o (by simp[ho]),(List.pairwise_append.1 h.sep).1,fun o ho=>h.off o (by simp[ho]),fun o ho k hk=> .inl (q0n.2 ⟨o,ho,hk⟩)⟩
theorem St.callM{c:Cx}{w w1:World}{σ σ1:Hv}{ins outs rest ms':List HObj}(h:St c w σ (ins++rest))(k:St ⟨w,σ,feet ins⟩ w1 σ1 outs)(hms:outs++rest=ms'):St c w1 σ1 ms':=by
  subst hms
  have hsep:=List.pairwise_append.1 h.sep
  have hfar: ∀p∈rest,∀j,p.foot=some j->j∉feet ins:=fun p hp j hj hm=>by
    obtain⟨o,ho,hoj⟩:=q0n.1 hm
    exact hsep.2.2 o ho p hp j hoj hj
  have hrest: ∀p∈rest,∀j,p.foot=some j->j<w.heap.size:=fun p hp j hj=>p.lt w j (h.own p (by simp[hp])) hj
  have hM: ∀j∈feet ins,j∈c.M∨c.w.heap.size<=j:=fun j hj=>by
    obtain⟨o,ho,hoj⟩:=q0n.1 hj
    exact h.new o (by simp[ho]) j hoj
  refine⟨?_,k.view,h.sub.trans k.sub,?_,?_,?_,?_,?_⟩
  · refine⟨k.keeps.os.trans h.keeps.os,k.keeps.tape.trans h.keeps.tape,k.keeps.output.trans h.keeps.output,Nat.le_trans h.keeps.size k.keeps.size,fun j hlt hm=> ?_⟩
    refine (k.keeps.block j (Nat.lt_of_lt_of_le hlt h.keeps.size) fun hj=> ?_).trans (h.keeps.block j hlt hm)
    rcases hM j hj with h1|h1
    · exact hm h1
    · omega
  · intro b hb hm
    refine (k.fresh b (Nat.lt_of_lt_of_le hb h.keeps.size) fun hj=> ?_).trans (h.fresh b hb hm)
    rcases hM b hj with h1|h1
    · exact hm h1
    · omega
  · intro p hp
    rcases List.mem_append.1 hp with hp|hp
    · exact k.own p hp
    · exact p.stay w w1 (fun j hj=>k.keeps.block j (hrest p hp j hj) (hfar p hp j hj)) (h.own p (by simp[hp]))
  · refine List.pairwise_append.2 ⟨k.sep,hsep.2.1,fun o ho p hp j hoj hpj=> ?_⟩
    rcases k.new o ho j hoj with h1|h1
    · exact hfar p hp j hpj h1
    · exact Nat.lt_irrefl _ (Nat.lt_of_lt_of_le (hrest p hp j hpj) h1)
  · intro p hp j hj
    rcases List.mem_append.1 hp with hp|hp
    · exact k.off p hp j hj
    · rw[k.fresh j (hrest p hp j hj) (hfar p hp j hj)]
      exact h.off p (by simp[hp]) j hj
  · intro p hp j hj
    rcases List.mem_append.1 hp with hp|hp
    · rcases k.new p hp j hj with h1|h1
      · exact hM j h1
      · exact .inr (Nat.le_trans h.keeps.size h1)
    · exact h.new p (by simp[hp]) j hj
theorem St.freeze'{c:Cx}{w:World}{σ:Hv}{ms ms':List HObj}(h:St c w σ ms){i:Nat}{o:HObj}(hi:ms[i]? =some o)
    (hms:ms.eraseIdx i=ms'): ∃σ1,St c w σ1 ms'/\Sub σ σ1/\ ∀k,o.foot=some k->σ1 k=w.heap[k]? :=by
  subst hms
  have hin:=List.mem_of_getElem? hi
  refine⟨fun k=>if o.foot=some k then w.heap[k]? else σ k,⟨h.keeps,?_,?_,?_,?_,?_,?_,?_⟩,?_,?_⟩
  · intro b ob hb
    simp only at hb
    split at hb
    · exact hb
    · exact h.view b ob hb
  · intro b ob hb
    have h1:=h.sub b ob hb
    simp only
    rw[if_neg ?_]
    · exact h1
    · intro hf
      rw[h.off o hin b hf] at h1;cases h1
  · intro b hb hm
    refine (if_neg ?_).trans (h.fresh b hb hm)
    intro hf
    rcases h.new o hin b hf with h1|hge
    · exact hm h1
    · omega
  · exact fun p hp=>h.own p (List.mem_of_mem_eraseIdx hp)
  · exact h.sep.sublist (List.eraseIdx_sublist _ _)
  · intro p hp k hpk
    obtain⟨j,hj,hp'⟩:=List.mem_eraseIdx_iff_getElem?.1 hp
    refine (if_neg ?_).trans (h.off p (List.mem_of_getElem? hp') k hpk)
    intro hf
    exact h.apart hi hp' hj k hf hpk
  · exact fun p hp=>h.new p (List.mem_of_mem_eraseIdx hp)
  · intro b ob hb
    refine (if_neg ?_).trans hb
    intro hf
    rw[h.off o hin b hf] at hb;cases hb
  · intro k hk
    exact if_pos hk
end Go.Fl
end
section
namespace Go.Fl
open Go Go.RowKit
variable {P:Program}{ops:Array Oper}{Q:Exit->Act->World->Prop}{rest:List Oper}{n:Nat}{f:Fr}{w w':World}{d:Nat}{t:TypeId}{p:String}{af:Array Edge}
theorem q4r{o:Oper}{v:Value}(hd:o.dst=some d)(hg:o.guard=none)(hrun:(execOp (ev n f) o).run P w= .ok (.value v) w')
    (h:wpList P ops Q rest (mk n (upd f d v)) w'):wpList P ops Q (o::rest) (mk n f) w:=by
  refine wpList_plain hg fun K hK=> ?_
  unfold Oper.wp
  rw[U6,hrun]
  show K ((mk n f).put o.dst v) w'
  rw[hd,j44]
  exact hK _ _ h
theorem v4a{o:Oper}(hd:o.dst=none)(hg:o.guard=none)(hrun:(execOp (ev n f) o).run P w= .ok .skip w')
    (h:wpList P ops Q rest (mk n f) w'):wpList P ops Q (o::rest) (mk n f) w:=by
  refine wpList_plain hg fun K hK=> ?_
  unfold Oper.wp
  rw[U6,hrun]
  show K ((mk n f).put o.dst undef) w'
  rw[hd,w3y]
  exact hK _ _ h
theorem w7g{o:Oper}{fid:FuncId}{args:Array Value}(hg:o.guard=none)(hd:o.dst=some d)(hrun:(execOp (ev n f) o).run P w= .ok (.enter fid args) w)
    (hc:Calls P fid args w fun e w1=> ∃v,e= .returned v/\wpList P ops Q rest (mk n (upd f d v)) w1):wpList P ops Q (o::rest) (mk n f) w:=by
  refine wpList_plain hg fun K hK=> ?_
  unfold Oper.wp
  rw[U6,hrun]
  refine hc.mono ?_
  rintro e w1 ⟨v,rfl,h⟩
  show K ((mk n f).put o.dst v) w1
  rw[hd,j44]
  exact hK _ _ h
theorem o_on{dst:Option Nat}{op:Op}{j dj:Nat}{b:Bool}(hj:(ops[j]?).bind (·.dst)=some dj)(hv:ev n f (.tmp dj)= .bool b)
    (h:wpList P ops Q (⟨dst,op,t,p,af,none⟩::rest) (mk n f) w):wpList P ops Q (⟨dst,op,t,p,af,some (j,b)⟩::rest) (mk n f) w:=by
  have hw:Region.wanted ⟨dst,op,t,p,af,some (j,b)⟩ (yielded ops (mk n f).tmps)=true:=by
    have h2:(mk n f).tmps.getD dj undef= .bool b:=z87 hv
    have h3:(mk n f).tmps[dj]? =some (.bool b):=by
      rw[Array.getD_eq_getD_getElem?] at h2
      cases hx:(mk n f).tmps[dj]? with
      |none=>rw[hx] at h2;cases h2
      |some x=>rw[hx] at h2;exact congrArg some h2
    simp[Region.wanted,yielded,hj,h3]
  unfold wpList at h⊢
  rw[if_pos hw]
  rw[if_pos (by simp[Region.wanted])] at h
  exact h
theorem z09{op:Op}{j dj:Nat}{b:Bool}(hj:(ops[j]?).bind (·.dst)=some dj)(hv:ev n f (.tmp dj)= .bool (!b))
    (h:wpList P ops Q rest (mk n (upd f d undef)) w):wpList P ops Q (⟨some d,op,t,p,af,some (j,b)⟩::rest) (mk n f) w:=by
  have hw:Region.wanted ⟨some d,op,t,p,af,some (j,b)⟩ (yielded ops (mk n f).tmps)=false:=by
    have h2:(mk n f).tmps.getD dj undef= .bool (!b):=z87 hv
    have h3:(mk n f).tmps[dj]? =some (.bool (!b)):=by
      rw[Array.getD_eq_getD_getElem?] at h2
      cases hx:(mk n f).tmps[dj]? with
      |none=>rw[hx] at h2;cases h2
      |some x=>rw[hx] at h2;exact congrArg some h2
    simp[Region.wanted,yielded,hj,h3]
  unfold wpList
  rw[if_neg (by rw[hw];simp)]
  rw[j44]
  exact h
theorem Qv{x:Operand}{v:Value}(hx:ev n f x=v)(h:wpList P ops Q rest (mk n (upd f d v)) w):
    wpList P ops Q (⟨some d,.move x,t,p,af,none⟩::rest) (mk n f) w:=q4r rfl rfl (by subst hx;rfl) h
theorem Qx{x:Operand}{v:Value}(hx:ev n f x=v)(h:wpList P ops Q rest (mk n (upd f d v)) w):
    wpList P ops Q (⟨some d,.assign x,t,p,af,none⟩::rest) (mk n f) w:=q4r rfl rfl (by subst hx;rfl) h
theorem j0i{c x y:Operand}{v:Value}(hc:ev n f c= .bool true)(hx:ev n f x=v)(h:wpList P ops Q rest (mk n (upd f d v)) w):
    wpList P ops Q (⟨some d,.pick c x y,t,p,af,none⟩::rest) (mk n f) w:=q4r rfl rfl (by subst hx;simp[execOp,hc,asBool]) h
theorem j0j{c x y:Operand}{v:Value}(hc:ev n f c= .bool false)(hx:ev n f y=v)(h:wpList P ops Q rest (mk n (upd f d v)) w):
    wpList P ops Q (⟨some d,.pick c x y,t,p,af,none⟩::rest) (mk n f) w:=q4r rfl rfl (by subst hx;simp[execOp,hc,asBool]) h
theorem nw{a r:Int}(h:a=r)(h1: -9223372036854775808<=a)(h2:a<=9223372036854775807):IntKind.i64.wrap a=r:=by
  rw[IntKind.wrap_i64];omega
theorem z1a{k:IntKind}{xt yt:TypeId}{x y:Operand}{a b r:Int}(hx:ev n f x= .int k a)(hy:ev n f y= .int k b)(hr:k.wrap (a+b)=r)
    (h:wpList P ops Q rest (mk n (upd f d (.int k r))) w):wpList P ops Q (⟨some d,.binOp .add xt x y yt,t,p,af,none⟩::rest) (mk n f) w:=
  q4r rfl rfl (by subst hr;simp[execOp,hx,hy,eqGuard,binOp,Op.intArith]) h
theorem v1n{k:IntKind}{xt yt:TypeId}{x y:Operand}{a b r:Int}(hx:ev n f x= .int k a)(hy:ev n f y= .int k b)(hr:k.wrap (a - b)=r)
    (h:wpList P ops Q rest (mk n (upd f d (.int k r))) w):wpList P ops Q (⟨some d,.binOp .sub xt x y yt,t,p,af,none⟩::rest) (mk n f) w:=
  q4r rfl rfl (by subst hr;simp[execOp,hx,hy,eqGuard,binOp,Op.intArith]) h
def cmpI:BinOp->Int->Int->Bool
  | .eql,a,b=>decide (a=b)
  | .neq,a,b=> !decide (a=b)
  | .lss,a,b=>decide (a<b)
  | .leq,a,b=>decide (a<=b)
  | .gtr,a,b=>decide (b<a)
  | .geq,a,b=>decide (b<=a)
  |_,_,_=>false
theorem v1o{op:BinOp}{k:IntKind}{xt yt:TypeId}{x y:Operand}{a b:Int}{r:Bool}(hx:ev n f x= .int k a)(hy:ev n f y= .int k b)
    (hop:op= .eql∨op= .neq∨op= .lss∨op= .leq∨op= .gtr∨op= .geq)(hr:cmpI op a b=r)
    (h:wpList P ops Q rest (mk n (upd f d (.bool r))) w):wpList P ops Q (⟨some d,.binOp op xt x y yt,t,p,af,none⟩::rest) (mk n f) w:=by
  refine q4r rfl rfl ?_ h
  subst hr
  rcases hop with rfl|rfl|rfl|rfl|rfl|rfl<;>simp[execOp,hx,hy,eqGuard,binOp,Op.intCmp,cmpI]
  · by_cases h:a=b<;>simp[h]
  · by_cases h:a=b<;>simp[h]
theorem y0c{k:IntKind}{xt yt:TypeId}{x y:Operand}{a b:Int}{r:Bool}(hx:ev n f x= .int k a)(hy:ev n f y= .int k b)(hr:decide (a=b)=r)
    (h:wpList P ops Q rest (mk n (upd f d (.bool r))) w):wpList P ops Q (⟨some d,.binOp .eql xt x y yt,t,p,af,none⟩::rest) (mk n f) w:=v1o hx hy (by simp) hr h
theorem w05{k:IntKind}{xt yt:TypeId}{x y:Operand}{a b:Int}{r:Bool}(hx:ev n f x= .int k a)(hy:ev n f y= .int k b)(hr:decide (a<b)=r)
    (h:wpList P ops Q rest (mk n (upd f d (.bool r))) w):wpList P ops Q (⟨some d,.binOp .lss xt x y yt,t,p,af,none⟩::rest) (mk n f) w:=v1o hx hy (by simp) hr h
theorem y0d{k:IntKind}{xt yt:TypeId}{x y:Operand}{a b:Int}{r:Bool}(hx:ev n f x= .int k a)(hy:ev n f y= .int k b)(hr:decide (a<=b)=r)
    (h:wpList P ops Q rest (mk n (upd f d (.bool r))) w):wpList P ops Q (⟨some d,.binOp .leq xt x y yt,t,p,af,none⟩::rest) (mk n f) w:=v1o hx hy (by simp) hr h
theorem v78{k:IntKind}{xt yt:TypeId}{x y:Operand}{a b:Int}{r:Bool}(hx:ev n f x= .int k a)(hy:ev n f y= .int k b)(hr:decide (b<a)=r)
    (h:wpList P ops Q rest (mk n (upd f d (.bool r))) w):wpList P ops Q (⟨some d,.binOp .gtr xt x y yt,t,p,af,none⟩::rest) (mk n f) w:=v1o hx hy (by simp) hr h
theorem v48{xt:TypeId}{x:Operand}{b r:Bool}(hx:ev n f x= .bool b)(hr:(!b)=r)
    (h:wpList P ops Q rest (mk n (upd f d (.bool r))) w):wpList P ops Q (⟨some d,.unOp .not xt x,t,p,af,none⟩::rest) (mk n f) w:=
  q4r rfl rfl (by subst hr;simp[execOp,hx,Op.unary]) h
theorem z1b(a b:ByteArray):(a.toList==b.toList)=decide (a=b):=by
  by_cases h:a=b
  · subst h;simp
  · have:a.toList≠b.toList:=by
      intro e
      apply h
      have:a.data.toList=b.data.toList:=by simpa [ByteArray.toList_eq] using e
      cases a;cases b
      simpa using this
    simp[h,this]
theorem q5q{st e:TypeId}{x:Operand}{a:Option Addr}{len cap:Nat}(hx:ev n f x= .slice a len cap)(hu:P.underlying st=some (.slice e))
    (h:wpList P ops Q rest (mk n (upd f d (.int .i64 (len:Nat)))) w):wpList P ops Q (⟨some d,.call ⟨.builtin .len,#[x],#[st]⟩,t,p,af,none⟩::rest) (mk n f) w:=
  q4r rfl rfl (by simp[execOp,hx,resolve,invoke,builtin,Builtin.len_,run_underlying hu,goInt]) h
theorem y0e{k:IntKind}{tx ty:TypeId}{x y:Operand}{a b r:Int}(hx:ev n f x= .int k a)(hy:ev n f y= .int k b)(hr:max a b=r)
    (h:wpList P ops Q rest (mk n (upd f d (.int k r))) w):wpList P ops Q (⟨some d,.call ⟨.builtin .max,#[x,y],#[tx,ty]⟩,t,p,af,none⟩::rest) (mk n f) w:=
  q4r rfl rfl (by
    have hm:max a b=(if b>a then b else a):=by omega
    subst hr;rw[hm];simp[execOp,hx,hy,resolve,invoke,builtin,Builtin.max_,Builtin.max2]) h
theorem y0f{k:IntKind}{tx ty:TypeId}{x y:Operand}{a b r:Int}(hx:ev n f x= .int k a)(hy:ev n f y= .int k b)(hr:min a b=r)
    (h:wpList P ops Q rest (mk n (upd f d (.int k r))) w):wpList P ops Q (⟨some d,.call ⟨.builtin .min,#[x,y],#[tx,ty]⟩,t,p,af,none⟩::rest) (mk n f) w:=
  q4r rfl rfl (by
    have hm:min a b=(if b<a then b else a):=by omega
    subst hr;rw[hm];simp[execOp,hx,hy,resolve,invoke,builtin,Builtin.min_,Builtin.min2]) h
theorem z7n{s:TypeId}{fs:Array Field}{fld:Field}{x:Operand}{j sz:Nat}{a a':Addr}(hx:ev n f x= .pointer (some a))(hu:P.underlying s=some (.struct fs))(hf:fs[j]? =some fld)
    (hs: ∀w,(sizeOf fld.type).run P w= .ok (sz+1) w)(ha:a.add fld.offset=a')
    (h:wpList P ops Q rest (mk n (upd f d (.pointer (some a')))) w):wpList P ops Q (⟨some d,.fieldAddr s x j,t,p,af,none⟩::rest) (mk n f) w:=
  q4r rfl rfl (by subst ha;simp[execOp,hx,Instr.fieldAt,run_underlying hu,hf,Instr.sureAddr,fieldPlace,hs]) h
theorem q0o{st e:TypeId}{x y:Operand}{sz k:Nat}{i:Int}{a a':Addr}{len cap:Nat}(hx:ev n f x= .slice (some a) len cap)(hy:ev n f y= .int .i64 i)(hi:i=(k:Int))(hk:k<len)
    (hu:P.underlying st=some (.slice e))(hs: ∀w,(sizeOf e).run P w= .ok sz w)(ha:a.add (k*sz)=a')
    (h:wpList P ops Q rest (mk n (upd f d (.pointer (some a')))) w):wpList P ops Q (⟨some d,.indexAddr st x y,t,p,af,none⟩::rest) (mk n f) w:=
  q4r rfl rfl (by
    subst ha;subst hi
    have h0:0<=(k:Int)/\(k:Int)<(len:Int):=by omega
    simp[execOp,hx,hy,Instr.indexAt,asIntOf,run_underlying hu,hs,hk]) h
theorem Wx{st e:TypeId}{x y:Operand}{sz k len:Nat}{i:Int}{a a':Addr}(hx:ev n f x= .pointer (some a))(hy:ev n f y= .int .i64 i)(hi:i=(k:Int))(hk:k<len)
    (hu:P.underlying st=some (.array len e))(hs: ∀w,(sizeOf e).run P w= .ok sz w)(ha:a.add (k*sz)=a')
    (h:wpList P ops Q rest (mk n (upd f d (.pointer (some a')))) w):wpList P ops Q (⟨some d,.indexAddr st x y,t,p,af,none⟩::rest) (mk n f) w:=
  q4r rfl rfl (by
    subst ha;subst hi
    simp[execOp,hx,hy,Instr.indexAt,asIntOf,run_underlying hu,hs,hk,Instr.sureAddr]) h
theorem w06{st e:TypeId}{x y:Operand}{k len:Nat}{i:Int}{cs:Array Value}{v:Value}(hx:ev n f x= .agg cs)(hy:ev n f y= .int .i64 i)(hi:i=(k:Int))(hk:k<len)
    (hu:P.underlying st=some (.array len e))(hs: ∀w,(sizeOf e).run P w= .ok 1 w)(hagg: ∀w,(isAgg e).run P w= .ok false w)(hv:cs[k]? =some v)
    (h:wpList P ops Q rest (mk n (upd f d v)) w):wpList P ops Q (⟨some d,.index st x y,t,p,af,none⟩::rest) (mk n f) w:=
  q4r rfl rfl (by
    subst hi
    simp[execOp,hx,hy,Instr.index,asIntOf,run_underlying hu,hs,hk,part,hagg,hv]) h
theorem z2y{fn:Fn}{a b:List Operand}{la lb:List Value}(ha:a.map (ev n f)=la)(hb:b.map (ev n f)=lb)
    (h:wpList P ops Q rest (mk n (upd f d (.func fn la.toArray lb.toArray))) w):wpList P ops Q (⟨some d,.makeFunc fn a.toArray b.toArray,t,p,af,none⟩::rest) (mk n f) w:=
  q4r rfl rfl (by subst ha;subst hb;simp[execOp,Instr.makeFunc]) h
end Go.Fl
end
section
namespace Go.Fl
open Go Go.RowKit
variable {P:Program}{ops:Array Oper}{Q:Exit->Act->World->Prop}{rest:List Oper}{n:Nat}{f:Fr}{w w':World}{d:Nat}{t:TypeId}{p:String}{af:Array Edge}
variable {c:Cx}{σ:Hv}{ms ms':List HObj}
theorem Jf(b o k:Nat):(⟨b,o,none⟩:Addr).add k=⟨b,o+k,none⟩:=by unfold Addr.add;split<;>simp_all
theorem q24(a:Addr)(x y:Nat):(a.add x).add y=a.add (x+y):=by
  unfold Addr.add
  by_cases hx:x=0
  · subst hx;simp
  · by_cases hy:y=0
    · subst hy;simp[hx]
    · simp[hx,hy,Nat.add_assoc]
def Row(w:World)(a:Addr)(cs:List Value):Prop:= ∀(j:Nat) v,cs[j]? =some v->w.cell? (a.add j)=some v
def VRow(σ:Hv)(a:Addr)(cs:List Value):Prop:= ∀(j:Nat) v,cs[j]? =some v->σ.cell (a.add j)=some v
theorem VRow.row{a:Addr}{cs:List Value}(h:VRow σ a cs)(hv:View σ w):Row w a cs:=fun j v hj=>hv.cell (h j v hj)
theorem VRow.mono{τ:Hv}{a:Addr}{cs:List Value}(h:VRow σ a cs)(hs:Sub σ τ):VRow τ a cs:=fun j v hj=>hs.cell (h j v hj)
theorem q2c{b T:Nat}{cs:List Value}(h:(blk b T cs).ok w):Row w ⟨b,0,none⟩ cs:=by
  intro j v hj
  have h':w.heap[b]? =some (.cells cs.toArray T (0,0)):=h
  rw[Jf,Nat.zero_add,cell_of_row w b j _ T (0,0) h']
  simpa using hj
theorem Row.part{a:Addr}{cs ds:List Value}{o k:Nat}(h:Row w a cs)(hd:(cs.drop o).take k=ds):Row w (a.add o) ds:=by
  intro j v hj
  subst hd
  rw[q24]
  refine h (o+j) v ?_
  rw[List.getElem?_take] at hj
  split at hj
  · rw[List.getElem?_drop] at hj;exact hj
  · cases hj
theorem VRow.part{a:Addr}{cs ds:List Value}{o k:Nat}(h:VRow σ a cs)(hd:(cs.drop o).take k=ds):VRow σ (a.add o) ds:=by
  intro j v hj
  subst hd
  rw[q24]
  refine h (o+j) v ?_
  rw[List.getElem?_take] at hj
  split at hj
  · rw[List.getElem?_drop] at hj;exact hj
  · cases hj
theorem q4p{ty:TypeId}{x:Operand}{a:Addr}{v:Value}(hx:ev n f x= .pointer (some a))(hagg: ∀w,(isAgg ty).run P w= .ok false w)(hc:w.cell? a=some v)
    (h:wpList P ops Q rest (mk n (upd f d v)) w):wpList P ops Q (⟨some d,.load ty x,t,p,af,none⟩::rest) (mk n f) w:=
  q4r rfl rfl (by simp[execOp,hx,Instr.loadAt,Instr.sureAddr,loadVar,hagg,load,Sem.run,hc]) h
theorem j06{ty:TypeId}{x:Operand}{a:Addr}{cs:List Value}{k:Nat}(hx:ev n f x= .pointer (some a))(hagg: ∀w,(isAgg ty).run P w= .ok true w)(hs: ∀w,(sizeOf ty).run P w= .ok k w)
    (hl:cs.length=k)(hc:Row w a cs)
    (h:wpList P ops Q rest (mk n (upd f d (.agg cs.toArray))) w):wpList P ops Q (⟨some d,.load ty x,t,p,af,none⟩::rest) (mk n f) w:=
  q4r rfl rfl (by
    have hr:=run_loadCells_list (P:=P) w a cs hc
    rw[hl] at hr
    simp[execOp,hx,Instr.loadAt,Instr.sureAddr,loadVar,hagg,hs,hr]) h
theorem Row.cell{a:Addr}{cs:List Value}{v:Value}(h:Row w a cs)(j:Nat)(hj:cs[j]? =some v){a':Addr}(ha:a.add j=a'):w.cell? a'=some v:=ha▸h j v hj
theorem VRow.cell{a:Addr}{cs:List Value}{v:Value}(h:VRow σ a cs)(hv:View σ w)(j:Nat)(hj:cs[j]? =some v){a':Addr}(ha:a.add j=a'):w.cell? a'=some v:=ha▸hv.cell (h j v hj)
theorem St.cell(h:St c w σ ms){i b T o:Nat}{cs:List Value}{v:Value}(hi:ms[i]? =some (blk b T cs))(ho:cs[o]? =some v):w.cell? ⟨b,o,none⟩=some v:=
  (q2c (h.get hi)).cell o ho (by rw[Jf,Nat.zero_add])
def W3(cs:List Value)(o:Nat)(vs:List Value):List Value:=cs.take o++vs++cs.drop (o+vs.length)
theorem j45(cs:List Value)(o:Nat)(v:Value)(h:o<cs.length):W3 cs o [v]=cs.set o v:=by
  simp only[W3,List.length_singleton]
  rw[List.set_eq_take_append_cons_drop,if_pos h]
  simp
theorem B6{b T:Nat}{cs:Array Value}(_h:w.heap[b]? =some (.cells cs T (0,0)))(cs':Array Value):Keeps [b] w (w.setRow b cs'):=
  ⟨rfl,rfl,rfl,by simp,fun k _ hm=>setRow_other w b k cs' (by simpa using hm)⟩
theorem Bs{ty:TypeId}{x y:Operand}{b T o k:Nat}{v:Value}{cs vs cs':List Value}{i:Nat}(hS:St c w σ ms)(hx:ev n f x= .pointer (some ⟨b,o,none⟩))(hy:ev n f y=v)
    (hvs:v.cells.toList=vs)(hs: ∀w,(sizeOf ty).run P w= .ok k w)(hl:vs.length=k)(h1: ∀u∈vs,u.oneCell'=true)
    (hi:ms[i]? =some (blk b T cs))(ho:o+k<=cs.length)(hcs:W3 cs o vs=cs')(hms:ms.set i (blk b T cs')=ms')
    (h: ∀w',St c w' σ ms'->wpList P ops Q rest (mk n f) w'):wpList P ops Q (⟨none,.store ty x y,t,p,af,none⟩::rest) (mk n f) w:=by
  have hb:w.heap[b]? =some (.cells cs.toArray T (0,0)):=hS.get hi
  have hr:=run_storeCells_at P b o T vs 0 cs.toArray w hb (by simpa [hl] using ho) h1
  have hsz:v.cells.size=k:=by rw[←Array.length_toList,hvs,hl]
  refine v4a rfl rfl (w':=w.setRow b cs'.toArray) ?_ ?_
  · subst hcs
    simp only[Nat.add_zero] at hr
    have h2:(storeVar ty ⟨b,o,none⟩ v).run P w= .ok () (w.setRow b (W3 cs o vs).toArray):=by
      simp only[storeVar,Sem.run_bind,hs,Result.andThen_ok,hsz,hvs]
      simpa [W3] using hr
    simp[execOp,hx,hy,Instr.storeAt,Instr.sureAddr,h2]
  · refine h _ (hS.step (o':=blk b T cs') hi (B6 hb _) (setRow_heap w b cs.toArray _ T _ hb) (fun k hk=> .inl hk) hms hS.view.none_of_ge)
theorem q5r(l:List Value):(Value.agg l.toArray).cells.toList=l:=rfl
theorem ones{vs:List Value}(h:vs.all (fun u=>u.oneCell')=true): ∀u∈vs,u.oneCell'=true:=by
  simpa using h
theorem St.drop(h:St c w σ ms)(i:Nat)(hms:ms.eraseIdx i=ms'):St c w σ ms':=h.sublist (hms▸List.eraseIdx_sublist _ _)
theorem U7(w:World)(o:Obj):Keeps [] w (w.alloc o):=⟨rfl,rfl,rfl,by simp,fun k hk _=>Below.heap_alloc w _ k hk⟩
theorem v79{ty:TypeId}{x:Operand}{v:Value}{cs:List Value}(hS:St c w σ ms)(hx:ev n f x=v)(hcs:v.cells.toList=cs)
    (h: ∀b w',St c w' σ (blk b ty cs::ms)->wpList P ops Q rest (mk n (upd f d (.pointer (some ⟨b,0,none⟩)))) w'):wpList P ops Q (⟨some d,.box ty x,t,p,af,none⟩::rest) (mk n f) w:=by
  refine q4r rfl rfl (v:= .pointer (some ⟨w.heap.size,0,none⟩)) (w':=w.alloc (.cells v.cells ty)) ?_ ?_
  · simp[execOp,hx,Instr.box,newVar,newRow,newObj,Sem.run]
  · refine h _ _ (hS.add (U7 w _) ?_ (by rintro k ⟨⟩;exact Nat.le_refl _))
    show (w.alloc _).heap[w.heap.size]? =_
    rw[heap_alloc_new,←hcs,Array.toArray_toList]
theorem q38{ty:TypeId}{z:Value}{cs:List Value}(hS:St c w σ ms)(hz: ∀w,(zeroValue ty).run P w= .ok z w)(hcs:z.cells.toList=cs)
    (h: ∀b w',St c w' σ (blk b ty cs::ms)->wpList P ops Q rest (mk n (upd f d (.pointer (some ⟨b,0,none⟩)))) w'):wpList P ops Q (⟨some d,.alloc ty,t,p,af,none⟩::rest) (mk n f) w:=by
  refine q4r rfl rfl (v:= .pointer (some ⟨w.heap.size,0,none⟩)) (w':=w.alloc (.cells z.cells ty)) ?_ ?_
  · simp[execOp,Instr.alloc,hz,newVar,newRow,newObj,Sem.run]
  · refine h _ _ (hS.add (U7 w _) ?_ (by rintro k ⟨⟩;exact Nat.le_refl _))
    show (w.alloc _).heap[w.heap.size]? =_
    rw[heap_alloc_new,←hcs,Array.toArray_toList]
theorem w7h{ty:TypeId}{parts:Array (Nat×Operand)}{v:Value}(hb: ∀w,(Instr.build ty (parts.map fun (i,x)=>(i,ev n f x))).run P w= .ok v w)
    (h:wpList P ops Q rest (mk n (upd f d v)) w):wpList P ops Q (⟨some d,.build ty parts,t,p,af,none⟩::rest) (mk n f) w:=
  q4r rfl rfl (by simp only[execOp,Sem.run_bind,hb,Result.andThen_ok];rfl) h
theorem q25{ty e:TypeId}{len:Nat}{parts:Array (Nat×Operand)}{cs:List Value}(hS:St c w σ ms)
    (hb: ∀w,(Instr.buildSlice ty len (parts.map fun (i,x)=>(i,ev n f x))).run P w= .ok (.slice (some ⟨w.heap.size,0,none⟩) len len) (w.alloc (.cells cs.toArray e)))
    (h: ∀b w',St c w' σ (blk b e cs::ms)->wpList P ops Q rest (mk n (upd f d (.slice (some ⟨b,0,none⟩) len len))) w'):wpList P ops Q (⟨some d,.buildSlice ty len parts,t,p,af,none⟩::rest) (mk n f) w:=by
  refine q4r rfl rfl (w':=w.alloc (.cells cs.toArray e)) (by simp only[execOp,Sem.run_bind,hb,Result.andThen_ok];rfl) ?_
  refine h _ _ (hS.add (U7 w _) ?_ (by rintro k ⟨⟩;exact Nat.le_refl _))
  show (w.alloc _).heap[w.heap.size]? =_
  rw[heap_alloc_new]
theorem Hg{v:Value}{T size k:Nat}{xs:List Value}(h:(vec v T size k xs).ok w):xs.length=k*size/\((v= .slice none 0 0/\k=0)∨ ∃g cap,v= .slice (some ⟨g,0,none⟩) k cap/\k<=cap/\cap<=maxLen):=by
  obtain⟨h1,h2⟩:=h
  exact⟨h1,h2.imp id fun ⟨g,cap,cur,hv,_,_,hk,hm,_⟩=>⟨g,cap,hv,hk,hm⟩⟩
theorem w07{v:Value}{T size k:Nat}{xs:List Value}(h:(vec v T size k xs).ok w)(hk:0<k): ∃g cap,v= .slice (some ⟨g,0,none⟩) k cap:=by
  rcases (Hg h).2 with ⟨_,h0⟩|⟨g,cap,hv,_⟩
  · omega
  · exact⟨g,cap,hv⟩
theorem z1c{v:Value}{T size k:Nat}{xs:List Value}(h:(vec v T size k xs).ok w): ∃a cap,v= .slice a k cap:=by
  rcases (Hg h).2 with ⟨hv,rfl⟩|⟨g,cap,hv,_⟩
  · exact⟨_,_,hv⟩
  · exact⟨_,_,hv⟩
theorem q9d{v:Value}{T size k:Nat}{xs:List Value}(h:(vec v T size k xs).ok w):v.oneCell'=true:=by
  obtain⟨a,cap,rfl⟩:=z1c h;rfl
theorem z4p{g cap T size k:Nat}{xs:List Value}(h:(vec (.slice (some ⟨g,0,none⟩) k cap) T size k xs).ok w):Row w ⟨g,0,none⟩ xs:=
  World.ownsRow.cells h rfl
theorem w7i{st e:TypeId}{x:Operand}{v:Value}{T size k i:Nat}{xs:List Value}(hS:St c w σ ms)(hx:ev n f x=v)(hi:ms[i]? =some (vec v T size k xs))(hu:P.underlying st=some (.slice e))
    (h:wpList P ops Q rest (mk n (upd f d (.int .i64 (k:Nat)))) w):wpList P ops Q (⟨some d,.call ⟨.builtin .len,#[x],#[st]⟩,t,p,af,none⟩::rest) (mk n f) w:=by
  obtain⟨a,cap,rfl⟩:=z1c (hS.get hi)
  exact q5q hx hu h
theorem j07{cur xs vs:List Value}{N o:Nat}(h:cur.take N=xs)(ho:o+vs.length<=N)(hN:N<=cur.length):
    (cur.take o++vs++cur.drop (o+vs.length)).take N=W3 xs o vs:=by
  subst h
  unfold W3
  rw[List.take_append,List.take_append,List.take_take,List.take_take]
  have e1:min N o=o:=by omega
  have e2:min o N=o:=by omega
  have e3:(cur.take o).length=o:=by simp;omega
  rw[e1,e2,e3,List.take_of_length_le (by omega:vs.length<=N - o),List.drop_take]
  congr 2
  simp only[List.length_append,e3]
theorem w08{ty:TypeId}{x y:Operand}{g cap T size k o j:Nat}{v:Value}{xs vs xs':List Value}{i:Nat}(hS:St c w σ ms)(hx:ev n f x= .pointer (some ⟨g,o,none⟩))(hy:ev n f y=v)
    (hvs:v.cells.toList=vs)(hs: ∀w,(sizeOf ty).run P w= .ok j w)(hl:vs.length=j)(h1: ∀u∈vs,u.oneCell'=true)
    (hi:ms[i]? =some (vec (.slice (some ⟨g,0,none⟩) k cap) T size k xs))(ho:o+j<=k*size)(hxs:W3 xs o vs=xs')(hms:ms.set i (vec (.slice (some ⟨g,0,none⟩) k cap) T size k xs')=ms')
    (h: ∀w',St c w' σ ms'->wpList P ops Q rest (mk n f) w'):wpList P ops Q (⟨none,.store ty x y,t,p,af,none⟩::rest) (mk n f) w:=by
  have hv:=hS.get hi
  obtain⟨hlen,hor⟩:=hv
  rcases hor with ⟨hbad,_⟩|⟨g',cap',cur,heq,_,hb,hk,hm,hcur,htake⟩
  · cases hbad
  · obtain⟨rfl,rfl⟩:g=g'/\cap=cap':=by simpa using heq
    have hle:k*size<=cap*size:=Nat.mul_le_mul_right _ hk
    have hr:=run_storeCells_at P g o T vs 0 cur w hb (by rw[hl,hcur];omega) h1
    simp only[Nat.add_zero] at hr
    have hsz:v.cells.size=j:=by rw[←Array.length_toList,hvs,hl]
    refine v4a rfl rfl (w':=w.setRow g (cur.toList.take o++vs++cur.toList.drop (o+vs.length)).toArray) ?_ ?_
    · have h2:(storeVar ty ⟨g,o,none⟩ v).run P w= .ok () (w.setRow g (cur.toList.take o++vs++cur.toList.drop (o+vs.length)).toArray):=by
        simp only[storeVar,Sem.run_bind,hs,Result.andThen_ok,hsz,hvs]
        simpa using hr
      simp[execOp,hx,hy,Instr.storeAt,Instr.sureAddr,h2]
    · refine h _ (hS.step (o':=vec (.slice (some ⟨g,0,none⟩) k cap) T size k xs') hi (B6 hb _) ?_ (fun k hk=> .inl hk) hms hS.view.none_of_ge)
      subst hxs
      refine⟨?_,.inr ⟨g,cap,_,rfl,Nat.zero_le _,setRow_heap w g cur _ T _ hb,hk,hm,?_,?_⟩⟩
      · unfold W3;simp only[List.length_append,List.length_take,List.length_drop];omega
      · simp only[List.size_toArray,List.length_append,List.length_take,List.length_drop,Array.length_toList];omega
      · exact j07 htake (by omega) (by simp;omega)
theorem w7j{ty' st e:TypeId}{i:TypeInfo}{z:Value}{size bytes:Nat}(hu:P.underlying st=some (.slice e))(hi:P.info? e=some i)(hz:i.zero=some z)
    (hsz:i.size=size)(hby:i.bytes=bytes)(hzs:z.cells.size=size)(hpos:0<size){v:Value}{k:Nat}{xs:List Value}(hown:(vec v e size k xs).ok w)
    {a:Addr}{m cc:Nat}{news:List Value}(hl:news.length=m*size)(hnews:Row w a news)(h1: ∀u∈news,u.oneCell'=true)(hb:(k+m)*bytes<=140737488355328)(h63:k+m<=maxLen):
    ∃v' w',(Builtin.append_ #[st,st] ty' #[v,.slice (some a) m cc]).run P w= .ok v' w'/\(vec v' e size (k+m) (xs++news)).ok w'/\Keeps v.ownBlock.toList w w'/\
      (∀b,v'.ownBlock=some b->v.ownBlock=some b∨w.heap.size<=b):=by
  have up: ∀{B:Nat} {w:World} {v':Value} {k:Nat} {xs:List Value},w.ownsRow B e size v' k xs->w.ownsRow 0 e size v' k xs:=fun ⟨a1,a2⟩=>⟨a1,a2.imp id fun ⟨g,cap,cur,h1,_,h3⟩=>⟨g,cap,cur,h1,Nat.zero_le _,h3⟩⟩
  have kp: ∀{w':World},w.grownBy w' v.ownBlock->Keeps v.ownBlock.toList w w':=fun hg=>⟨hg.os,hg.tape,hg.output,hg.size,fun b hbl hm=>hg.block b hbl (fun e=>hm (by rw[←e];simp))⟩
  by_cases hnil:v= .slice none 0 0
  · subst hnil
    have hk:k=0:=by
      rcases hown.2 with ⟨_,hk⟩|⟨_,_,_,hv,_⟩
      · exact hk
      · cases hv
    subst hk
    have hx:xs=[]:=List.eq_nil_of_length_eq_zero (by simpa using hown.1)
    subst hx
    obtain⟨v',w',hr,ho,hg,_⟩:=run_append_own (P:=P) w w.heap.size st ty' e i z size bytes hu hi hz hsz hby hzs hpos _ 0 [] (World.ownsRow_nil w w.heap.size e size) a m cc news hl hnews h1 h63 hb (Nat.le_refl _)
    refine⟨v',w',hr,up ho,kp hg,fun b hv'=> .inr ?_⟩
    exact (World.ownsRow.lt ho b hv').1
  · obtain⟨v',w',hr,ho,hg,_⟩:=run_append_own (P:=P) w 0 st ty' e i z size bytes hu hi hz hsz hby hzs hpos v k xs hown a m cc news hl hnews h1 h63 hb (Nat.zero_le _)
    refine⟨v',w',hr,ho,kp hg,?_⟩
    rcases hown.2 with ⟨hv,_⟩|⟨g,cap,cur,rfl,_,hgc,hkc,hcm,hcs,htake⟩
    · exact absurd hv hnil
    · subst hsz;subst hby
      by_cases hroom:k+m<=cap
      · have hfit:k*i.size+news.length<=cur.size:=by rw[hl,hcs,←Nat.add_mul];exact Nat.mul_le_mul_right _ hroom
        have hr2:=run_append_room (P:=P) w st ty' e i hu hi g k cap cur hgc a m cc news hl hnews h1 hroom hfit
        rw[hr2] at hr
        injection hr with e1 _
        subst e1
        intro b hb';left;exact hb'
      · have holds: ∀j u,xs[j]? =some u->w.cell? ((⟨g,0,none⟩:Addr).add j)=some u:=World.ownsRow.cells hown rfl
        have h63':((k+m:Nat):Int)<=9223372036854775807:=by simp only[maxLen] at h63;omega
        have hr2:=run_append_grow (P:=P) w st ty' e i z hu hi hz ⟨g,0,none⟩ k cap xs hown.1 holds a m cc news hl hnews (by omega) h63' (growslice_fits (by omega) hb)
        rw[hr2] at hr
        injection hr with e1 _
        subst e1
        intro b hb';right
        cases hb';exact Nat.le_refl _
theorem j6f{st e:TypeId}{x y:Operand}{i:TypeInfo}{z:Value}{size bytes:Nat}(hu:P.underlying st=some (.slice e))(hi:P.info? e=some i)(hz:i.zero=some z)
    (hsz:i.size=size)(hby:i.bytes=bytes)(hzs:z.cells.size=size)(hpos:0<size){v:Value}{k q:Nat}{xs xs':List Value}(hS:St c w σ ms)(hx:ev n f x=v)(hq:ms[q]? =some (vec v e size k xs))
    {a:Addr}{m cc:Nat}{news:List Value}(hy:ev n f y= .slice (some a) m cc)(hl:news.length=m*size)(hnews:Row w a news)(h1: ∀u∈news,u.oneCell'=true)(hb:(k+m)*bytes<=140737488355328)(h63:k+m<=maxLen)
    (hxs:xs++news=xs'){Ms:Value->List HObj}(hms: ∀v',ms.set q (vec v' e size (k+m) xs')=Ms v')
    (h: ∀v' w',v'.oneCell'=true->St c w' σ (Ms v')->wpList P ops Q rest (mk n (upd f d v')) w'):
    wpList P ops Q (⟨some d,.call ⟨.builtin .append,#[x,y],#[st,st]⟩,t,p,af,none⟩::rest) (mk n f) w:=by
  obtain⟨v',w',hr,ho,hk,hf⟩:=w7j (P:=P) (ty':=t) (cc:=cc) hu hi hz hsz hby hzs hpos (hS.get hq) hl hnews h1 hb h63
  subst hxs
  refine q4r rfl rfl ?_ (h v' w' (q9d ho) (hS.step hq hk ho hf (hms v') hS.view.none_of_ge))
  simp only[execOp,resolve,invoke,builtin,Sem.run_bind,Sem.run_pure,Result.andThen_ok,List.map_toArray,List.map_cons,List.map_nil,hx,hy,hr]
theorem q8k{g:FuncId}{xs:List Operand}{ts:Array TypeId}{args:List Value}(ha:xs.map (ev n f)=args)(hcall: ∀args w,(callFunc g args).run P w= .ok (.enter g args) w)
    (hc:Calls P g args.toArray w fun e w1=> ∃v,e= .returned v/\wpList P ops Q rest (mk n (upd f d v)) w1):
    wpList P ops Q (⟨some d,.call ⟨.value (.func g),xs.toArray,ts⟩,t,p,af,none⟩::rest) (mk n f) w:=by
  refine w7g rfl rfl ?_ hc
  have h0:ev n f (.func g)= .func (.func g) #[] #[]:=rfl
  subst ha
  simp[execOp,resolve,h0,Deferred.ofValue,invoke,hcall]
theorem w7k{x:Operand}{g:FuncId}{first captured:List Value}{xs:List Operand}{ts:Array TypeId}{args:List Value}(hx:ev n f x= .func (.func g) first.toArray captured.toArray)(ha:(first++xs.map (ev n f))++captured=args)
    (hcall: ∀args w,(callFunc g args).run P w= .ok (.enter g args) w)
    (hc:Calls P g args.toArray w fun e w1=> ∃v,e= .returned v/\wpList P ops Q rest (mk n (upd f d v)) w1):
    wpList P ops Q (⟨some d,.call ⟨.value x,xs.toArray,ts⟩,t,p,af,none⟩::rest) (mk n f) w:=by
  refine w7g rfl rfl ?_ hc
  subst ha
  simp[execOp,resolve,hx,Deferred.ofValue,invoke,hcall]
end Go.Fl
end
section
namespace Go.Fl
open Go Go.RowKit
variable {P:Program}{Q:Exit->Act->World->Prop}{n:Nat}{f:Fr}{w:World}{σ τ:Hv}
theorem Qi{K:Act->World->Prop}{a:Act}(h:K a w):Exit.then K Q .normal a w:=h
theorem q8l{K:Act->World->Prop}{a:Act}{i:Nat}(h:Q (.exit i) a w):Exit.then K Q (.exit i) a w:=h
theorem v4b{K:Act->World->Prop}{a:Act}(h:Q .ret a w):Exit.then K Q .ret a w:=h
theorem j33{a:Act}{i:Nat}(h:Q .normal a w):Exit.inBlock i Q .normal a w:=h
theorem z4q{a:Act}{i:Nat}(h:Q .normal a w):Exit.inBlock i Q (.exit i) a w:=by simp only[Exit.inBlock,if_true];exact h
theorem y0g{c:Operand}{x y:Code}{b:Bool}(hc:ev n f c= .bool (!b))(ht:b=false->x.wp P Q (mk n f) w)(hf:b=true->y.wp P Q (mk n f) w):
    (Code.cond c x y).wp P Q (mk n f) w:=by
  cases b
  · exact if_t hc (ht rfl)
  · exact if_f hc (hf rfl)
theorem View.of(h:Sub σ τ)(v:View τ w):View σ w:=fun b o hb=>v b o (h b o hb)
def RSl{α:Type}(size:Nat)(R:Hv->List Value->α->Prop)(σ:Hv)(v:Value)(l:List α):Prop:=
  ∃a cap,v= .slice a l.length cap/\l.length<=cap/\l.length<=140737488355328/\
    ∀(i:Nat) x,l[i]? =some x-> ∃ad cs,a=some ad/\cs.length=size/\VRow σ (ad.add (i*size)) cs/\R σ cs x
theorem RSl.mono{α:Type}{size:Nat}{R:Hv->List Value->α->Prop}(hR: ∀{σ τ:Hv} {cs x},Sub σ τ->R σ cs x->R τ cs x){v:Value}{l:List α}(hs:Sub σ τ)(h:RSl size R σ v l):RSl size R τ v l:=by
  obtain⟨a,cap,h1,h2,h3,h4⟩:=h
  refine⟨a,cap,h1,h2,h3,fun i x hx=> ?_⟩
  obtain⟨ad,cs,e1,e2,e3,e4⟩:=h4 i x hx
  exact⟨ad,cs,e1,e2,e3.mono hs,hR hs e4⟩
theorem RSl.nil{α:Type}{size:Nat}{R:Hv->List Value->α->Prop}:RSl size R σ (.slice none 0 0) []:=
  ⟨none,0,rfl,Nat.le_refl _,by simp,fun i x hx=>by simp at hx⟩
theorem RSl.ofVec{α:Type}{size T:Nat}{R:Hv->List Value->α->Prop}{v:Value}{k:Nat}{xs:List Value}{l:List α}(h:(vec v T size k xs).ok w)
    (hs: ∀b,v.ownBlock=some b->σ b=w.heap[b]?)(hk:l.length=k)(hcap:k<=140737488355328)
    (hR: ∀(i:Nat) x,l[i]? =some x->((xs.drop (i*size)).take size).length=size/\R σ ((xs.drop (i*size)).take size) x):RSl size R σ v l:=by
  subst hk
  rcases (Hg h).2 with ⟨rfl,h0⟩|⟨g,cap,rfl,h1,h2⟩
  · have:l=[]:=List.eq_nil_of_length_eq_zero h0
    subst this
    exact RSl.nil
  · refine⟨_,cap,rfl,h1,hcap,fun i x hx=>⟨_,_,rfl,(hR i x hx).1,?_,(hR i x hx).2⟩⟩
    have hrow:VRow σ ⟨g,0,none⟩ xs:=by
      intro j u hj
      have hc:=z4p h j u hj
      rw[Jf] at hc⊢
      unfold Hv.cell
      rw[hs g rfl]
      exact hc
    exact hrow.part rfl
theorem take_snoc{α:Type}{l:List α}{k:Nat}{x:α}(h:l[k]? =some x):l.take (k+1)=l.take k++[x]:=by
  rw[List.take_add_one,h];rfl
theorem getq{α:Type}{l:List α}{k:Nat}(h:k<l.length): ∃x,l[k]? =some x:=⟨_,List.getElem?_eq_getElem h⟩
theorem Qa{α:Type}{l:List α}{k:Nat}{x:α}(h:l[k]? =some x):k<l.length:=(List.getElem?_eq_some_iff.1 h).1
def RU8(_:Hv)(cs:List Value)(x:UInt8):Prop:=cs=[.int .u8 ((x.toNat:Nat):Int)]
def REnc{α:Type}(enc:α->List Value):Hv->List Value->α->Prop:=fun _ cs x=>cs=enc x
theorem RSl.shape{α:Type}{size:Nat}{R:Hv->List Value->α->Prop}{v:Value}{l:List α}(h:RSl size R σ v l): ∃a cap,v= .slice a l.length cap:=by
  obtain⟨a,cap,h1,_⟩:=h;exact⟨a,cap,h1⟩
theorem RSl.menc{α:Type}{size:Nat}{enc:α->List Value}{σ τ:Hv}{v:Value}{l:List α}(hs:Sub σ τ)(h:RSl size (REnc enc) σ v l):RSl size (REnc enc) τ v l:=h.mono (fun _ h=>h) hs
theorem w09{α:Type}{enc:α->List Value}{size:Nat}(he: ∀x,(enc x).length=size): ∀{l:List α} {i:Nat} {x:α},l[i]? =some x->((l.flatMap enc).drop (i*size)).take size=enc x
  |[],_,_,h=>by simp at h
  |a::l,0,x,h=>by
    simp at h;subst h
    simp only[Nat.zero_mul,List.drop_zero,List.flatMap_cons]
    rw[List.take_append_of_le_length (by rw[he];exact Nat.le_refl _),List.take_of_length_le (by rw[he];exact Nat.le_refl _)]
  |a::l,i+1,x,h=>by
    simp only[List.getElem?_cons_succ] at h
    simp only[List.flatMap_cons]
    rw[Nat.add_mul,Nat.one_mul,Nat.add_comm,←List.drop_drop,List.drop_left' (he a)]
    exact w09 he h
theorem j8m{α:Type}{enc:α->List Value}(l:List α)(x:α):l.flatMap enc++enc x=(l++[x]).flatMap enc:=by simp
theorem RSl.ofVecEnc{α:Type}{size T:Nat}{enc:α->List Value}(he: ∀x,(enc x).length=size){v:Value}{k:Nat}{l:List α}(h:(vec v T size k (l.flatMap enc)).ok w)
    (hs: ∀b,v.ownBlock=some b->σ b=w.heap[b]?)(hk:l.length=k)(hcap:k<=140737488355328):RSl size (REnc enc) σ v l:=
  RSl.ofVec h hs hk hcap fun i x hx=>by rw[w09 he hx];exact⟨he x,rfl⟩
theorem RSl.take{α:Type}{size:Nat}{R:Hv->List Value->α->Prop}{a:Option Addr}{len cap:Nat}{l:List α}(h:RSl size R σ (.slice a len cap) l)(k:Nat)(hk:k<=l.length):RSl size R σ (.slice a k cap) (l.take k):=by
  obtain⟨a',cap',h1,h2,h3,h4⟩:=h
  cases h1
  have hl:(l.take k).length=k:=by simp;omega
  refine⟨a,cap,by rw[hl],by omega,by omega,fun i x hx=> ?_⟩
  refine h4 i x ?_
  rw[List.getElem?_take] at hx
  split at hx
  · exact hx
  · cases hx
def w1a(z:Value->Bool):Nat->List Value->Bool
  |0,[]=>true
  |n+1,v::l=>z v && w1a z n l
  |_,_=>false
theorem q26{z:Value->Bool}{v0:Value}(hz: ∀v,z v=true->v=v0): ∀{n:Nat} {l:List Value},w1a z n l=true->l=List.replicate n v0
  |0,[],_=>rfl
  |n+1,v::l,h=>by
    simp only[w1a,Bool.and_eq_true] at h
    rw[hz v h.1,q26 hz h.2];rfl
  |0,_::_,h=>by simp[w1a] at h
  |_+1,[],h=>by simp[w1a] at h
def zB:Value->Bool| .bool false=>true|_=>false
theorem j8n(v:Value)(h:zB v=true):v= .bool false:=by
  cases v<;>simp[zB] at h
  rename_i b;cases b
  · rfl
  · simp at h
def zI:Value->Bool| .int .i64 (.ofNat 0)=>true|_=>false
theorem y0h(v:Value)(h:zI v=true):v= .int .i64 0:=by
  unfold zI at h
  split at h
  · rfl
  · cases h
def j46:Option Value->List Value
  |some (.agg cs)=>cs.toList
  |_=>[]
theorem q4s{P:Program}{t:TypeId}{i:TypeInfo}{v0:Value}{n:Nat}(hi:P.info? t=some i)(hl:j46 i.zero=List.replicate n v0)(hn:0<n):
    ∀w,(zeroValue t).run P w= .ok (.agg (List.replicate n v0).toArray) w:=by
  intro w
  cases hz:i.zero with
  |none=>rw[hz] at hl;have:=congrArg List.length hl;simp[j46] at this;omega
  |some v=>
    rw[hz] at hl
    cases v with
    |agg cs=>
      have:cs=(List.replicate n v0).toArray:=by rw[←hl];simp[j46]
      subst this
      simp[zeroValue,typeInfo,hi,hz]
    |_=>have:=congrArg List.length hl;simp[j46] at this;omega
def brow(N:Nat)(p:Nat->Bool):List Value:=(List.range N).map fun i=> .bool (p i)
def irow(N:Nat)(p:Nat->Int):List Value:=(List.range N).map fun i=> .int .i64 (p i)
theorem Z2(N:Nat)(p:Nat->Bool):(brow N p).length=N:=by simp[brow]
theorem z2z(N:Nat)(p:Nat->Int):(irow N p).length=N:=by simp[irow]
theorem q7z{N j:Nat}{p:Nat->Bool}(h:j<N):(brow N p)[j]? =some (.bool (p j)):=by simp[brow,h]
theorem z7o{N j:Nat}{p:Nat->Int}(h:j<N):(irow N p)[j]? =some (.int .i64 (p j)):=by simp[irow,h]
theorem v1p{N j:Nat}{p:Nat->Bool}{b:Bool}(h:j<N):W3 (brow N p) j [.bool b]=brow N (fun i=>if i=j then b else p i):=by
  rw[j45 _ _ _ (by rw[Z2];exact h)]
  apply List.ext_getElem?
  intro i
  rw[List.getElem?_set,Z2]
  by_cases hi:i<N
  · by_cases hj:j=i
    · subst hj;rw[if_pos rfl,if_pos h,q7z h,if_pos rfl]
    · rw[if_neg hj,q7z hi,q7z hi,if_neg (fun e=>hj e.symm)]
  · have e1:(brow N p)[i]? =none:=List.getElem?_eq_none (by rw[Z2];omega)
    have e2:(brow N (fun i=>if i=j then b else p i))[i]? =none:=List.getElem?_eq_none (by rw[Z2];omega)
    rw[if_neg (by omega),e1,e2]
theorem w3z{N j:Nat}{p:Nat->Int}{b:Int}(h:j<N):W3 (irow N p) j [.int .i64 b]=irow N (fun i=>if i=j then b else p i):=by
  rw[j45 _ _ _ (by rw[z2z];exact h)]
  apply List.ext_getElem?
  intro i
  rw[List.getElem?_set,z2z]
  by_cases hi:i<N
  · by_cases hj:j=i
    · subst hj;rw[if_pos rfl,if_pos h,z7o h,if_pos rfl]
    · rw[if_neg hj,z7o hi,z7o hi,if_neg (fun e=>hj e.symm)]
  · have e1:(irow N p)[i]? =none:=List.getElem?_eq_none (by rw[z2z];omega)
    have e2:(irow N (fun i=>if i=j then b else p i))[i]? =none:=List.getElem?_eq_none (by rw[z2z];omega)
    rw[if_neg (by omega),e1,e2]
theorem j47{N:Nat}{p q:Nat->Bool}(h: ∀i,i<N->p i=q i):brow N p=brow N q:=by
  simp only[brow];exact List.map_congr_left fun i hi=>by rw[h i (List.mem_range.1 hi)]
theorem j48{N:Nat}{p q:Nat->Int}(h: ∀i,i<N->p i=q i):irow N p=irow N q:=by
  simp only[irow];exact List.map_congr_left fun i hi=>by rw[h i (List.mem_range.1 hi)]
theorem q3r(N:Nat):List.replicate N (Value.bool false)=brow N (fun _=>false):=by
  apply List.ext_getElem<;>simp[brow]
theorem w7l(N:Nat):List.replicate N (Value.int .i64 0)=irow N (fun _=>0):=by
  apply List.ext_getElem<;>simp[irow]
theorem B7{cs vs:List Value}(h:vs.length=cs.length):W3 cs 0 vs=vs:=by
  simp[W3,h]
theorem q5s(N:Nat)(p:Nat->Bool): ∀u∈brow N p,u.oneCell'=true:=by
  intro u hu
  obtain⟨_,_,rfl⟩:=List.mem_map.1 hu
  rfl
theorem Ra{b T:Nat}{cs:List Value}(h:(blk b T cs).ok w)(hs: ∀k,(blk b T cs).foot=some k->σ k=w.heap[k]?):VRow σ ⟨b,0,none⟩ cs:=by
  intro j v hj
  have hb:σ b=some (.cells cs.toArray T (0,0)):=(hs b rfl).trans h
  rw[Jf,Nat.zero_add]
  unfold Hv.cell
  rw[hb]
  simpa using hj
theorem rsl1{α:Type}{size:Nat}{R:Hv->List Value->α->Prop}{b:Nat}{cs:List Value}{x:α}(h:VRow σ ⟨b,0,none⟩ cs)(hl:cs.length=size)(hR:R σ cs x):RSl size R σ (.slice (some ⟨b,0,none⟩) 1 1) [x]:=by
  refine⟨_,1,rfl,Nat.le_refl _,by simp,fun i y hy=> ?_⟩
  match i,hy with
  |0,hy=>
    simp at hy;subst hy
    exact⟨_,cs,rfl,hl,by rw[Nat.zero_mul];exact h,hR⟩
theorem rsl2{α:Type}{size:Nat}{R:Hv->List Value->α->Prop}{b:Nat}{cs ds:List Value}{x y:α}(h:VRow σ ⟨b,0,none⟩ (cs++ds))(hl:cs.length=size)(hl2:ds.length=size)(hR:R σ cs x)(hR2:R σ ds y):RSl size R σ (.slice (some ⟨b,0,none⟩) 2 2) [x,y]:=by
  refine⟨_,2,rfl,Nat.le_refl _,by simp,fun i z hz=> ?_⟩
  match i,hz with
  |0,hz=>
    simp at hz;subst hz
    exact⟨_,cs,rfl,hl,h.part (o:=0*size) (k:=size) (by rw[Nat.zero_mul,List.drop_zero,List.take_left' hl]),hR⟩
  |1,hz=>
    simp at hz;subst hz
    exact⟨_,ds,rfl,hl2,h.part (o:=1*size) (k:=size) (by rw[Nat.one_mul,List.drop_left' hl,List.take_of_length_le (by omega)]),hR2⟩
def RSs{α:Type}(size:Nat)(R:Hv->List Value->α->Prop):Hv->List Value->List α->Prop:=fun σ cs l=> ∃v,cs=[v]/\RSl size R σ v l
theorem w7m{α:Type}{enc:α->List Value}{size:Nat}(he: ∀x,(enc x).length=size){l:List α}{i j:Nat}{x:α}{v:Value}(h:l[i]? =some x)(hv:(enc x)[j]? =some v):(l.flatMap enc)[i*size+j]? =some v:=by
  have h1:=w09 he h
  have hj:j<size:=by rw[←he x];exact (List.getElem?_eq_some_iff.1 hv).1
  rw[←h1,List.getElem?_take,if_pos hj,List.getElem?_drop] at hv
  exact hv
theorem w30{α:Type}{enc:α->List Value}{size:Nat}(he: ∀x,(enc x).length=size): ∀{l:List α} {i j:Nat} {x y:α} {vs:List Value},l[i]? =some x->W3 (enc x) j vs=enc y->j+vs.length<=size->
    W3 (l.flatMap enc) (i*size+j) vs=(l.set i y).flatMap enc
  |[],_,_,_,_,_,h,_,_=>by simp at h
  |a::l,0,j,x,y,vs,h,hs,hj=>by
    simp at h;subst h
    simp only[Nat.zero_mul,Nat.zero_add,List.set_cons_zero,List.flatMap_cons,←hs,W3]
    rw[List.take_append_of_le_length (by rw[he];omega),List.drop_append_of_le_length (by rw[he];omega)]
    simp[List.append_assoc]
  |a::l,i+1,j,x,y,vs,h,hs,hj=>by
    simp only[List.getElem?_cons_succ] at h
    have ih:=w30 he h hs hj
    simp only[List.set_cons_succ,List.flatMap_cons,←ih,W3]
    have e:(i+1)*size+j=(enc a).length+(i*size+j):=by rw[he,Nat.add_mul,Nat.one_mul];omega
    rw[e,List.take_append,List.take_of_length_le (by omega),Nat.add_assoc,List.drop_append,List.drop_of_length_le (by omega)]
    simp[List.append_assoc,Nat.add_sub_cancel_left]
theorem St.startO{w:World}{σ:Hv}(h:View σ w){o:HObj}(ho:o.ok w)(hσ: ∀k,o.foot=some k->σ k=none):St ⟨w,σ,o.foot.toList⟩ w σ [o]:=
  ⟨.refl _ _,h,.refl _,fun _ _ _=>rfl,by simpa using ho,by simp,by simpa using hσ,by intro o' h' k hk;rw[List.mem_singleton.1 h'] at hk;left;rw[hk];simp⟩
theorem St.growO{c:Cx}{w w1:World}{σ:Hv}{ms ms':List HObj}(h:St c w σ ms){bo:Option Nat}(g:Grow bo.toList σ w σ w1){i:Nat}{o o':HObj}(hi:ms[i]? =some o)
    (hf:o.foot=bo)(hf':o'.foot=bo)(ho:o'.ok w1)(hms:ms.set i o'=ms'):St c w1 σ ms':=
  h.step hi (by rw[hf];exact g.keeps) ho (fun k hk=> .inl (by rw[hf,←hf'];exact hk)) hms h.view.none_of_ge
theorem w1b(b k:Nat):(⟨b,0,none⟩:Addr).add k=⟨b,k,none⟩:=by rw[Jf,Nat.zero_add]
theorem v1q{α:Type}{enc:α->List Value}{size g cap T k:Nat}(he: ∀x,(enc x).length=size){l:List α}{i j:Nat}{x:α}{v:Value}(h:(vec (.slice (some ⟨g,0,none⟩) k cap) T size k (l.flatMap enc)).ok w)(hx:l[i]? =some x)(hv:(enc x)[j]? =some v):w.cell? ⟨g,i*size+j,none⟩=some v:=
  (z4p h).cell _ (w7m he hx hv) (w1b _ _)
theorem RSl.len{α:Type}{size:Nat}{R:Hv->List Value->α->Prop}{v:Value}{l:List α}(h:RSl size R σ v l):l.length<=140737488355328:=by
  obtain⟨_,_,_,_,h3,_⟩:=h;exact h3
def v49:HObj:=⟨none,fun _=>True,fun _ _ _ h=>h,fun _ _ _ h=>by cases h⟩
def q0m(s:Int×Int):List Value:=[.int .i64 s.1,.int .i64 s.2]
theorem j08(s:Int×Int):(q0m s).length=2:=rfl
end Go.Fl
end
section
namespace Go.Fl
open Go Go.RowKit
variable {P:Program}{ops:Array Oper}{md:Region.Mode}{Q:Exit->Act->World->Prop}{n:Nat}{f:Fr}{w:World}
def nrm(K:Act->World->Prop):Exit->Act->World->Prop:=fun e a w=>e= .normal/\K a w
def wpJ(P:Program)(md:Region.Mode)(ops:Array Oper)(Q:Exit->Act->World->Prop)(J:World->Prop):Nat->Array Bool->Act->World->Prop
  |0,listed,a,w=>Region.ready md ops listed=[]/\Q .normal a w
  |fuel+1,listed,a,w=>
    (Region.ready md ops listed=[]->Q .normal a w)/\
    ∀i∈Region.ready md ops listed,wpOp P ops Q i (fun a w=>J w/\wpJ P md ops Q J fuel (listed.setIfInBounds i true) a w) a w
theorem w7n{J:World->Prop}: ∀(fuel:Nat) (listed:Array Bool) (a:Act) (w:World),wpJ P md ops Q J fuel listed a w->wpAny P md ops Q fuel listed a w
  |0,_,_,_,h=>h
  |fuel+1,_,_,_,h=>⟨h.1,fun i hi=>wpOp_mono (fun a w hk=>w7n fuel _ a w hk.2) (h.2 i hi)⟩
def Still(P:Program)(ops:Array Oper)(J:World->Prop)(i:Nat)(oi:Oper)(v:Value)(a:Act):Prop:=
  ∀w,J w-> ∀K:Act->World->Prop,K (a.put oi.dst v) w->wpOp P ops (nrm K) i K a w
theorem v1r{o:Oper}{a:Act}{dj:Option Tmp}{u:Value}(hne: ∀d,o.dst=some d->dj≠some d){K K':Act->World->Prop}{r:Result Next}
    (h:o.upon P a (fun a' w'=>K (a'.put dj u) w') (nrm K') r){Q':Exit->Act->World->Prop}:o.upon P (a.put dj u) K Q' r:=by
  cases r with
  |ok x w'=>
    cases x<;>simp only[Oper.upon] at h⊢
    case value v=>rw[←Act.put_comm a v u hne];exact h
    case skip=>rw[←Act.put_comm a undef u hne];exact h
    case defer d=>
      rw[Act.put_comm ({a with defers:=d::a.defers}:Act) undef u hne] at h
      have e2:({a with defers:=d::a.defers}:Act).put dj u={a.put dj u with defers:=d::(a.put dj u).defers}:=by cases dj<;>rfl
      rw[e2] at h
      exact h
    case enter g args=>
      refine Calls.mono h fun e w'' he=> ?_
      cases e with
      |returned v=>simp only at he⊢;rw[←Act.put_comm a v u hne];exact he
      |panicked c=>exact absurd he.1 (by simp)
      |outgrown=>obtain⟨_,_,hb,_⟩:=he;exact absurd hb (by simp)
    case row row args=>exact Rows.mono h fun v w'' he=>by rw[←Act.put_comm a v u hne];exact he
  |halt x w'=>
    cases x<;>simp only[Oper.upon] at h⊢
    case panic v=>exact absurd h.1 (by simp)
theorem v8a{o:Oper}{a:Act}{K K':Act->World->Prop}{r:Result Next}(h:o.upon P a K (nrm K') r){Q':Exit->Act->World->Prop}:o.upon P a K Q' r:=by
  cases r with
  |ok x w'=>
    cases x<;>simp only[Oper.upon] at h⊢ <;>try exact h
    case enter g args=>
      refine Calls.mono h fun e w'' he=> ?_
      cases e with
      |returned v=>exact he
      |panicked c=>exact absurd he.1 (by simp)
      |outgrown=>obtain⟨_,_,hb,_⟩:=he;exact absurd hb (by simp)
  |halt x w'=>
    cases x<;>simp only[Oper.upon] at h⊢
    case panic v=>exact absurd h.1 (by simp)
theorem j09(K:Act->World->Prop): ¬LetsOut (nrm K):=by rintro⟨_,_,h,_⟩;cases h
theorem j49{i:Nat}{a:Act}{K K':Act->World->Prop}(h:wpOp P ops (nrm K') i K a w):wpOp P ops Q i K a w:=by
  unfold wpOp at*
  split
  · rename_i ho;simp only[ho] at h;exact h
  · rename_i o ho
    simp only[ho] at h
    split
    · rename_i hw;simp only[hw,if_true] at h
      rcases h with h|⟨_,hl⟩
      · exact .inl (v8a h)
      · exact absurd hl (j09 _)
    · rename_i hw;simp only[hw] at h;exact h
theorem Still.put{J:World->Prop}{i:Nat}{oi oj:Oper}{v:Value}{a:Act}(hi:ops[i]? =some oi)(hap:oi.apart ops oj=true)(hsi: ∀cs b,oi.op≠ .select cs b)
    (hy:Still P ops J i oi v a)(u:Value):Still P ops J i oi v (a.put oj.dst u):=by
  obtain⟨h1,h2,h3⟩:=Oper.apart_spec hap
  intro w hJ K hK
  have h:=hy w hJ (fun a' w'=>K (a'.put oj.dst u) w') (by rw[Act.put_comm a v u h2];exact hK)
  unfold wpOp at*
  simp only[hi] at*
  rw[wanted_put oi a oj.dst u h3]
  split
  · rename_i hw
    simp only[hw,if_true] at h
    rcases h with h|⟨_,hl⟩
    · left
      unfold Oper.wp at*
      rw[execOp_put oi hsi a oj.dst u h3]
      exact v1r h2 h
    · exact absurd hl (j09 _)
  · rename_i hw
    simp only[hw] at h
    rw[←Act.put_comm a undef u h2]
    exact h
theorem Still.defers{J:World->Prop}{i:Nat}{oi:Oper}{v:Value}{a:Act}(hi:ops[i]? =some oi)(hy:Still P ops J i oi v a)(d:Deferred):Still P ops J i oi v {a with defers:=d::a.defers}:=by
  intro w hJ K hK
  have e: ∀(x:Option Tmp) (u:Value),({a with defers:=d::a.defers}:Act).put x u={a.put x u with defers:=d::(a.put x u).defers}:=by
    intro x u;cases x<;>rfl
  have h:=hy w hJ (fun a' w'=>K {a' with defers:=d::a'.defers} w') (by rw[e] at hK;exact hK)
  have h2:=hy w hJ (fun a' _=>a'=a.put oi.dst v) rfl
  unfold wpOp at*
  simp only[hi] at*
  have hev:({a with defers:=d::a.defers}:Act).eval=a.eval:=by funext x;cases x<;>rfl
  split
  · rename_i hw
    simp only[hw,if_true] at h h2
    replace h2:=h2.resolve_right (fun hl=>j09 _ hl.2)
    rcases h with h|⟨_,hl⟩
    · left
      unfold Oper.wp at*
      rw[hev]
      generalize (execOp a.eval oi).run P w=r at*
      cases r with
      |ok x w'=>
        cases x<;>simp only[Oper.upon] at h⊢
        case value u=>rw[e];exact h
        case skip=>rw[e];exact h
        case defer d'=>
          exfalso
          simp only[Oper.upon] at h2
          have h3:=congrArg (fun z:Act=>z.defers.length) h2
          cases ho:oi.dst<;>simp[ho,Act.put] at h3
        case enter g args=>
          refine Calls.mono h fun e' w'' he=> ?_
          cases e' with
          |returned u=>simp only at he⊢;rw[e];exact he
          |panicked c=>exact absurd he.1 (by simp)
          |outgrown=>obtain⟨_,_,hb,_⟩:=he;exact absurd hb (by simp)
        case row row args=>exact Rows.mono h fun u w'' he=>by rw[e];exact he
      |halt x w'=>
        cases x<;>simp only[Oper.upon] at h⊢
        case panic u=>exact absurd h.1 (by simp)
    · exact absurd hl (j09 _)
  · rename_i hw
    simp only[hw] at h
    rw[e];exact h
theorem w7o{J:World->Prop}{i j:Nat}{oi oj:Oper}{v:Value}(hi:ops[i]? =some oi)(hj:ops[j]? =some oj)(hap:oi.apart ops oj=true)
    (hsi: ∀cs b,oi.op≠ .select cs b)(hsj: ∀cs b,oj.op≠ .select cs b)
    (hQ: ∀c a w,Q (.panic c) (a.put oi.dst v) w->Q (.panic c) a w){K:Act->World->Prop}{a:Act}
    (hy:Still P ops J i oi v a)(h:wpOp P ops Q j K (a.put oi.dst v) w):
    wpOp P ops Q j (fun a' w'=>Still P ops J i oi v a'/\K (a'.put oi.dst v) w') a w:=by
  obtain⟨h1,h2,h3⟩:=Oper.apart_spec hap
  have keep: ∀u,Still P ops J i oi v (a.put oj.dst u):=fun u=>hy.put hi hap hsi u
  unfold wpOp at*
  simp only[hj] at*
  rw[wanted_put oj a oi.dst v h1] at h
  split
  · rename_i hw
    simp only[hw,if_true] at h
    rcases h with h|⟨hasks,hlets⟩
    case inr=>exact .inr ⟨by unfold Oper.asks at*;rw[execOp_put oj hsj a oi.dst v h1] at hasks;exact hasks,hlets⟩
    refine .inl ?_
    unfold Oper.wp at*
    rw[execOp_put oj hsj a oi.dst v h1] at h
    generalize (execOp a.eval oj).run P w=r at*
    cases r with
    |ok x w'=>
      cases x<;>simp only[Oper.upon] at h⊢
      case value u=>exact⟨keep u,by rw[←Act.put_comm a v u h2];exact h⟩
      case skip=>exact⟨keep _,by rw[←Act.put_comm a v undef h2];exact h⟩
      case defer d=>
        have k2:Still P ops J i oi v (({a with defers:=d::a.defers}:Act).put oj.dst undef):=(hy.defers hi d).put hi hap hsi undef
        refine⟨k2,?_⟩
        rw[←Act.put_comm _ v undef h2,←Act.put_defers]
        exact h
      case enter g args=>
        refine Calls.mono h fun e w'' he=> ?_
        cases e with
        |returned u=>exact⟨keep u,by rw[←Act.put_comm a v u h2];exact he⟩
        |panicked c=>exact hQ _ _ _ he
        |outgrown=>exact he
      case row row args=>exact Rows.mono h fun u w'' he=>⟨keep u,by rw[←Act.put_comm a v u h2];exact he⟩
    |halt x w'=>
      cases x<;>simp only[Oper.upon] at h⊢
      case panic u=>exact hQ _ _ _ h
  · rename_i hw
    simp only[hw] at h
    exact⟨keep _,by rw[←Act.put_comm a v undef h2];exact h⟩
theorem w7p{J:World->Prop}{i:Nat}{oi:Oper}{v:Value}(hi:ops[i]? =some oi)(hsel: ∀(j:Nat) (o:Oper) cs b,ops[j]? =some o->o.op≠ .select cs b)
    (hQ: ∀c a w,Q (.panic c) (a.put oi.dst v) w->Q (.panic c) a w):
    ∀(fuel:Nat) (listed:Array Bool) (a:Act) (w:World),J w->
      (∀j oj,ops[j]? =some oj->j≠i->listed.getD j true=false->(∀e∈oj.after,Region.binds md e=true->e.on≠i)->oi.apart ops oj=true)->
      i∈Region.ready md ops listed->Still P ops J i oi v a->
      wpJ P md ops Q J fuel (listed.setIfInBounds i true) (a.put oi.dst v) w->wpJ P md ops Q J (fuel+1) listed a w:=by
  intro fuel
  induction fuel with
  |zero=>
    intro listed a w hJ _ hr hy H
    refine⟨fun h=>(by rw[h] at hr;cases hr),fun j hj=> ?_⟩
    by_cases hji:j=i
    · subst hji;exact j49 (hy w hJ _ ⟨hJ,H⟩)
    · have:=ready_mono hj hji
      rw[H.1] at this
      cases this
  |succ fuel ih=>
    intro listed a w hJ hfree hr hy H
    refine⟨fun h=>(by rw[h] at hr;cases hr),fun j hj=> ?_⟩
    by_cases hji:j=i
    · subst hji;exact j49 (hy w hJ _ ⟨hJ,H⟩)
    · have h1:=H.2 j (ready_mono hj hji)
      obtain⟨hjun,oj,hoj,hall⟩:=mem_ready.1 hj
      have hnot: ∀e∈oj.after,Region.binds md e=true->e.on≠i:=fun e he hb heq=>by
        have h1:=hall e he hb
        have h0:=(mem_ready.1 hr).1
        rw[heq] at h1
        rcases Nat.lt_or_ge i listed.size with h'|h'
        · simp[h'] at h0 h1;rw[h0] at h1;cases h1
        · simp[Array.getElem?_eq_none h'] at h1
      have h2:=w7o hi hoj (hfree j oj hoj hji hjun hnot) (fun cs b=>hsel i oi cs b hi) (fun cs b=>hsel j oj cs b hoj) hQ hy h1
      have hfree': ∀k ok,ops[k]? =some ok->k≠i->(listed.setIfInBounds j true).getD k true=false->
          (∀e∈ok.after,Region.binds md e=true->e.on≠i)->oi.apart ops ok=true:=fun k ok hk hki hun hno=>by
        refine hfree k ok hk hki ?_ hno
        by_cases hjk:j=k
        · subst hjk;exact hjun
        · rw[getD_set_ne true hjk] at hun;exact hun
      refine wpOp_mono (fun a' w' h3=>⟨h3.2.1,ih (listed.setIfInBounds j true) a' w' h3.2.1 hfree' (ready_mono hr (Ne.symm hji)) h3.1 ?_⟩) h2
      rw[Array.setIfInBounds_comm _ _ hji]
      exact h3.2.2
theorem z5p{i:Nat}{oi:Oper}{a:Act}{K:Act->World->Prop}(hi:ops[i]? =some oi)(h:wpList P ops (nrm K) [oi] a w):wpOp P ops (nrm K) i K a w:=by
  unfold wpOp
  simp only[hi]
  unfold wpList at h
  split
  · rename_i hw
    rw[if_pos hw] at h
    rcases h with h|⟨_,hl⟩
    · exact .inl (Oper.wp_mono (fun a w hk=>hk.2) h)
    · exact absurd hl (j09 _)
  · rename_i hw
    rw[if_neg hw] at h
    exact h.2
theorem z5q{J:World->Prop}{listed l':Array Bool}{fuel i d:Nat}{oi:Oper}{v:Value}(hi:ops[i]? =some oi)(hs:Region.noSelect ops=true)(hf:Region.free md ops listed i=true)
    (hr:(Region.ready md ops listed).contains i=true)(hl:listed.setIfInBounds i true=l')(hd:oi.dst=some d)(hQ: ∀c a w,Q (.panic c) (a.put (some d) v) w->Q (.panic c) a w)(hJ:J w)
    (hy: ∀w,J w-> ∀K:Act->World->Prop,K (mk n (upd f d v)) w->wpList P ops (nrm K) [oi] (mk n f) w)
    (h:wpJ P md ops Q J fuel l' (mk n (upd f d v)) w):wpJ P md ops Q J (fuel+1) listed (mk n f) w:=by
  subst hl
  refine w7p hi (Region.noSelect_spec hs) (v:=v) (by rw[hd];exact hQ) fuel listed _ w hJ (Region.free_spec hi hf) (by simpa using hr) ?_ (by rw[hd,j44];exact h)
  intro w hJ K hK
  rw[hd,j44] at hK
  exact z5p hi (hy w hJ K hK)
theorem y0i{J:World->Prop}{listed l':Array Bool}{fuel i:Nat}{oi:Oper}(hr:Region.ready md ops listed=[i])(hi:ops[i]? =some oi)(hl:listed.setIfInBounds i true=l')
    (h:wpList P ops (nrm fun a w=>J w/\wpJ P md ops Q J fuel l' a w) [oi] (mk n f) w):wpJ P md ops Q J (fuel+1) listed (mk n f) w:=by
  subst hl
  refine⟨fun h0=>(by rw[hr] at h0;cases h0),?_⟩
  rw[hr]
  intro j hj
  rw[List.mem_singleton] at hj
  subst hj
  exact j49 (z5p hi h)
theorem y0j{J:World->Prop}{listed li lj:Array Bool}{fuel i j:Nat}{oi oj:Oper}(hr:Region.ready md ops listed=[i,j])(hi:ops[i]? =some oi)(hj:ops[j]? =some oj)(hli:listed.setIfInBounds i true=li)(hlj:listed.setIfInBounds j true=lj)
    (h:wpList P ops (nrm fun a w=>J w/\wpJ P md ops Q J fuel li a w) [oi] (mk n f) w)(h':wpList P ops (nrm fun a w=>J w/\wpJ P md ops Q J fuel lj a w) [oj] (mk n f) w):wpJ P md ops Q J (fuel+1) listed (mk n f) w:=by
  subst hli;subst hlj
  refine⟨fun h0=>(by rw[hr] at h0;cases h0),?_⟩
  rw[hr]
  intro k hk
  simp only[List.mem_cons,List.not_mem_nil,or_false] at hk
  rcases hk with rfl|rfl
  · exact j49 (z5p hi h)
  · exact j49 (z5p hj h')
theorem v8b{J:World->Prop}{listed:Array Bool}{a:Act}(hr:Region.ready md ops listed=[])(h:Q .normal a w):wpJ P md ops Q J 0 listed a w:=⟨hr,h⟩
theorem y0k{id m:Nat}{L:Array Bool}(J:World->Prop)(hm:P.follows .mixedOrders=true)(hs:ops.size=m)(hL:Array.replicate m false=L)
    (h:wpJ P .any ops Q J m L (mk n f) w.drew):(Code.region id ops true).wp P Q (mk n f) w:=by
  subst hs;subst hL
  exact wp_region_any hm (w7n _ _ _ _ h)
end Go.Fl
end
end
noncomputable section
set_option maxRecDepth 100000
section
namespace Go.Fl
open Go Go.RowKit
variable {P:Program}{ops:Array Oper}{Q:Exit->Act->World->Prop}{rest:List Oper}{n:Nat}{f:Fr}{w w':World}{d:Nat}{t:TypeId}{p:String}{af:Array Edge}
variable {c:Cx}{σ:Hv}{ms ms':List HObj}
theorem z9p(base:Nat)(t ty e:TypeId)(i:TypeInfo)(size cc:Nat)(ht:P.underlying t=some (.slice e))(hi:P.info? e=some i)
  (v:Value)(n:Nat)(xs:List Value)(hown:w.ownsRow base e size v n xs):
  (Builtin.append_ #[t,t] ty #[v,.slice none 0 cc]).run P w= .ok v w:=by
 rcases hown.2 with ⟨rfl,rfl⟩|⟨g,cap,cur,rfl,_,_,hnc,_⟩
 ·simp[Builtin.append_,run_underlying ht,sizeOf,typeInfo,hi,Builtin.lenOf,Builtin.firstCells]
 ·simp[Builtin.append_,run_underlying ht,sizeOf,typeInfo,hi,Builtin.lenOf,Builtin.firstCells,hnc,storeCells]
end Go.Fl
end
section
namespace Go.Fl.Lk
def blt(x y:ByteArray):Prop:=x.data.toList<y.data.toList
instance (x y:ByteArray):Decidable (blt x y):=by unfold blt;infer_instance
theorem v1s{x y:ByteArray}(h:x.data.toList=y.data.toList):x=y:=by
 cases x;cases y;simp at h;simp[h]
theorem z7p(x:ByteArray): ¬blt x x:=List.lt_irrefl _
theorem j8o{x y z:ByteArray}(h:blt x y)(k:blt y z):blt x z:=List.lt_trans h k
theorem w1c{x y:ByteArray}(h: ¬blt x y)(k: ¬blt y x):x=y:=v1s (List.le_antisymm k h)
theorem w7q{x y:ByteArray}(h:blt x y): ¬blt y x:=fun k=>z7p _ (j8o h k)
theorem v8c{x y:ByteArray}(h:blt x y):x≠y:=fun e=>z7p y (e▸h)
abbrev L3:=ByteArray×ByteArray×Int
def y0l(e:L3)(y z:ByteArray):Prop:=(e.1=y/\e.2.1=z)∨(e.1=z/\e.2.1=y)
def Conn(l:List L3)(x y:ByteArray):Prop:= ∀p:ByteArray->Prop,p x->(∀e∈l,∀a b,y0l e a b->p a->p b)->p y
def ids(l:List L3):List ByteArray:=l.flatMap fun e=>[e.1,e.2.1]
def Asc(ys:List ByteArray):Prop:=ys.Pairwise blt
open Classical in
def fo(l:List L3):Nat->List L3
 |0=>[]
 |n+1=>match l[n]? with
  |some e=>if Conn (l.take n) e.1 e.2.1 then fo l n else fo l n++[e]
  |none=>fo l n
def Closed(l:List L3)(ys:List ByteArray)(n:Nat):Prop:= ∀(j:Nat) e,j<n->l[j]? =some e->(e.1∈ys↔e.2.1∈ys)
theorem j1a{ys:List ByteArray}(h:Asc ys):ys.Nodup:=h.imp fun hlt=>v8c hlt
end Go.Fl.Lk
end
section
namespace Go.Fl
def Cnd(c A B:Prop):Prop:=(c->A)/\(¬c->B)
theorem Cnd.yes{c A B:Prop}(h:c)(a:A):Cnd c A B:=⟨fun _=>a,fun n=>absurd h n⟩
theorem Cnd.no{c A B:Prop}(h: ¬c)(b:B):Cnd c A B:=⟨fun y=>absurd y h,fun _=>b⟩
def InI(x:Int):Prop:= -9223372036854775808<=x/\x<=9223372036854775807
theorem InI.mk{x:Int}(h: -9223372036854775808<=x)(k:x<=9223372036854775807):InI x:=⟨h,k⟩
def Sml(n:Nat):Prop:=n<=4294967296
def put{κ α:Type}[DecidableEq κ](F:κ->Option α)(k:κ)(y:α):κ->Option α:=fun q=>if q=k then some y else F q
def dlt{κ α:Type}[DecidableEq κ](F:κ->Option α)(k:κ):κ->Option α:=fun q=>if q=k then none else F q
def Jn0(k:Prop)(A:Prop->Prop):Prop:= ∃Y:Prop,(Y->k)/\A Y
def Jn1{T0:Type}(kk:T0->Prop)(AA:(T0->Prop)->Prop):Prop:= ∃Y:T0->Prop,(∀s0_,Y s0_->kk s0_)/\AA Y
theorem Jn1.mk{T0:Type}{kk:T0->Prop}{AA:(T0->Prop)->Prop}(Y:T0->Prop)(h:AA Y)(hk: ∀s0_,Y s0_->kk s0_):Jn1 kk AA:=⟨Y,hk,h⟩
def Jn2{T0 T1:Type}(kk:T0->T1->Prop)(AA:(T0->T1->Prop)->Prop):Prop:= ∃Y:T0->T1->Prop,(∀s0_ s1_,Y s0_ s1_->kk s0_ s1_)/\AA Y
theorem Jn2.mk{T0 T1:Type}{kk:T0->T1->Prop}{AA:(T0->T1->Prop)->Prop}(Y:T0->T1->Prop)(h:AA Y)(hk: ∀s0_ s1_,Y s0_ s1_->kk s0_ s1_):Jn2 kk AA:=⟨Y,hk,h⟩
def Jn3{T0 T1 T2:Type}(kk:T0->T1->T2->Prop)(AA:(T0->T1->T2->Prop)->Prop):Prop:= ∃Y:T0->T1->T2->Prop,(∀s0_ s1_ s2_,Y s0_ s1_ s2_->kk s0_ s1_ s2_)/\AA Y
theorem Jn3.mk{T0 T1 T2:Type}{kk:T0->T1->T2->Prop}{AA:(T0->T1->T2->Prop)->Prop}(Y:T0->T1->T2->Prop)(h:AA Y)(hk: ∀s0_ s1_ s2_,Y s0_ s1_ s2_->kk s0_ s1_ s2_):Jn3 kk AA:=⟨Y,hk,h⟩
def Jn4{T0 T1 T2 T3:Type}(kk:T0->T1->T2->T3->Prop)(AA:(T0->T1->T2->T3->Prop)->Prop):Prop:= ∃Y:T0->T1->T2->T3->Prop,(∀s0_ s1_ s2_ s3_,Y s0_ s1_ s2_ s3_->kk s0_ s1_ s2_ s3_)/\AA Y
theorem Jn4.mk{T0 T1 T2 T3:Type}{kk:T0->T1->T2->T3->Prop}{AA:(T0->T1->T2->T3->Prop)->Prop}(Y:T0->T1->T2->T3->Prop)(h:AA Y)(hk: ∀s0_ s1_ s2_ s3_,Y s0_ s1_ s2_ s3_->kk s0_ s1_ s2_ s3_):Jn4 kk AA:=⟨Y,hk,h⟩
def Lp1{T0:Type}(body:T0->(T0->Prop)->Prop)(s0_:T0):Prop:= ∀X:T0->Prop,(∀s0_' Y,(∀s0_,Y s0_->X s0_)->body s0_' Y->X s0_')->X s0_
theorem Lp1.ind{T0:Type}{body:T0->(T0->Prop)->Prop}(I:T0->Prop)(m:T0->Nat)(h: ∀s0_,I s0_->body s0_ (fun s0_'=>I s0_'/\m s0_'<m s0_)){s0_:T0}(h0:I s0_):Lp1 body s0_:=by
 intro X hX
 have key: ∀(k:Nat) (s0_:T0),m s0_<=k->I s0_->X s0_:=by
  intro k
  induction k with
  |zero=>exact fun s0_ _ hi=>hX s0_ _ (fun s0_' h=>absurd h.2 (by omega)) (h s0_ hi)
  |succ k ih=>exact fun s0_ hk hi=>hX s0_ _ (fun s0_' h=>ih s0_' (by omega) h.1) (h s0_ hi)
 exact key _ s0_ (Nat.le_refl _) h0
def Lp2{T0 T1:Type}(body:T0->T1->(T0->T1->Prop)->Prop)(s0_:T0)(s1_:T1):Prop:= ∀X:T0->T1->Prop,(∀s0_' s1_' Y,(∀s0_ s1_,Y s0_ s1_->X s0_ s1_)->body s0_' s1_' Y->X s0_' s1_')->X s0_ s1_
theorem Lp2.ind{T0 T1:Type}{body:T0->T1->(T0->T1->Prop)->Prop}(I:T0->T1->Prop)(m:T0->T1->Nat)(h: ∀s0_ s1_,I s0_ s1_->body s0_ s1_ (fun s0_' s1_'=>I s0_' s1_'/\m s0_' s1_'<m s0_ s1_)){s0_:T0}{s1_:T1}(h0:I s0_ s1_):Lp2 body s0_ s1_:=by
 intro X hX
 have key: ∀(k:Nat) (s0_:T0) (s1_:T1),m s0_ s1_<=k->I s0_ s1_->X s0_ s1_:=by
  intro k
  induction k with
  |zero=>exact fun s0_ s1_ _ hi=>hX s0_ s1_ _ (fun s0_' s1_' h=>absurd h.2 (by omega)) (h s0_ s1_ hi)
  |succ k ih=>exact fun s0_ s1_ hk hi=>hX s0_ s1_ _ (fun s0_' s1_' h=>ih s0_' s1_' (by omega) h.1) (h s0_ s1_ hi)
 exact key _ s0_ s1_ (Nat.le_refl _) h0
def Lp3{T0 T1 T2:Type}(body:T0->T1->T2->(T0->T1->T2->Prop)->Prop)(s0_:T0)(s1_:T1)(s2_:T2):Prop:= ∀X:T0->T1->T2->Prop,(∀s0_' s1_' s2_' Y,(∀s0_ s1_ s2_,Y s0_ s1_ s2_->X s0_ s1_ s2_)->body s0_' s1_' s2_' Y->X s0_' s1_' s2_')->X s0_ s1_ s2_
theorem Lp3.ind{T0 T1 T2:Type}{body:T0->T1->T2->(T0->T1->T2->Prop)->Prop}(I:T0->T1->T2->Prop)(m:T0->T1->T2->Nat)(h: ∀s0_ s1_ s2_,I s0_ s1_ s2_->body s0_ s1_ s2_ (fun s0_' s1_' s2_'=>I s0_' s1_' s2_'/\m s0_' s1_' s2_'<m s0_ s1_ s2_)){s0_:T0}{s1_:T1}{s2_:T2}(h0:I s0_ s1_ s2_):Lp3 body s0_ s1_ s2_:=by
 intro X hX
 have key: ∀(k:Nat) (s0_:T0) (s1_:T1) (s2_:T2),m s0_ s1_ s2_<=k->I s0_ s1_ s2_->X s0_ s1_ s2_:=by
  intro k
  induction k with
  |zero=>exact fun s0_ s1_ s2_ _ hi=>hX s0_ s1_ s2_ _ (fun s0_' s1_' s2_' h=>absurd h.2 (by omega)) (h s0_ s1_ s2_ hi)
  |succ k ih=>exact fun s0_ s1_ s2_ hk hi=>hX s0_ s1_ s2_ _ (fun s0_' s1_' s2_' h=>ih s0_' s1_' s2_' (by omega) h.1) (h s0_ s1_ s2_ hi)
 exact key _ s0_ s1_ s2_ (Nat.le_refl _) h0
def Lp4{T0 T1 T2 T3:Type}(body:T0->T1->T2->T3->(T0->T1->T2->T3->Prop)->Prop)(s0_:T0)(s1_:T1)(s2_:T2)(s3_:T3):Prop:= ∀X:T0->T1->T2->T3->Prop,(∀s0_' s1_' s2_' s3_' Y,(∀s0_ s1_ s2_ s3_,Y s0_ s1_ s2_ s3_->X s0_ s1_ s2_ s3_)->body s0_' s1_' s2_' s3_' Y->X s0_' s1_' s2_' s3_')->X s0_ s1_ s2_ s3_
theorem Lp4.ind{T0 T1 T2 T3:Type}{body:T0->T1->T2->T3->(T0->T1->T2->T3->Prop)->Prop}(I:T0->T1->T2->T3->Prop)(m:T0->T1->T2->T3->Nat)(h: ∀s0_ s1_ s2_ s3_,I s0_ s1_ s2_ s3_->body s0_ s1_ s2_ s3_ (fun s0_' s1_' s2_' s3_'=>I s0_' s1_' s2_' s3_'/\m s0_' s1_' s2_' s3_'<m s0_ s1_ s2_ s3_)){s0_:T0}{s1_:T1}{s2_:T2}{s3_:T3}(h0:I s0_ s1_ s2_ s3_):Lp4 body s0_ s1_ s2_ s3_:=by
 intro X hX
 have key: ∀(k:Nat) (s0_:T0) (s1_:T1) (s2_:T2) (s3_:T3),m s0_ s1_ s2_ s3_<=k->I s0_ s1_ s2_ s3_->X s0_ s1_ s2_ s3_:=by
  intro k
  induction k with
  |zero=>exact fun s0_ s1_ s2_ s3_ _ hi=>hX s0_ s1_ s2_ s3_ _ (fun s0_' s1_' s2_' s3_' h=>absurd h.2 (by omega)) (h s0_ s1_ s2_ s3_ hi)
  |succ k ih=>exact fun s0_ s1_ s2_ s3_ hk hi=>hX s0_ s1_ s2_ s3_ _ (fun s0_' s1_' s2_' s3_' h=>ih s0_' s1_' s2_' s3_' (by omega) h.1) (h s0_ s1_ s2_ s3_ hi)
 exact key _ s0_ s1_ s2_ s3_ (Nat.le_refl _) h0
def Lp5{T0 T1 T2 T3 T4:Type}(body:T0->T1->T2->T3->T4->(T0->T1->T2->T3->T4->Prop)->Prop)(s0_:T0)(s1_:T1)(s2_:T2)(s3_:T3)(s4_:T4):Prop:= ∀X:T0->T1->T2->T3->T4->Prop,(∀s0_' s1_' s2_' s3_' s4_' Y,(∀s0_ s1_ s2_ s3_ s4_,Y s0_ s1_ s2_ s3_ s4_->X s0_ s1_ s2_ s3_ s4_)->body s0_' s1_' s2_' s3_' s4_' Y->X s0_' s1_' s2_' s3_' s4_')->X s0_ s1_ s2_ s3_ s4_
theorem Lp5.ind{T0 T1 T2 T3 T4:Type}{body:T0->T1->T2->T3->T4->(T0->T1->T2->T3->T4->Prop)->Prop}(I:T0->T1->T2->T3->T4->Prop)(m:T0->T1->T2->T3->T4->Nat)(h: ∀s0_ s1_ s2_ s3_ s4_,I s0_ s1_ s2_ s3_ s4_->body s0_ s1_ s2_ s3_ s4_ (fun s0_' s1_' s2_' s3_' s4_'=>I s0_' s1_' s2_' s3_' s4_'/\m s0_' s1_' s2_' s3_' s4_'<m s0_ s1_ s2_ s3_ s4_)){s0_:T0}{s1_:T1}{s2_:T2}{s3_:T3}{s4_:T4}(h0:I s0_ s1_ s2_ s3_ s4_):Lp5 body s0_ s1_ s2_ s3_ s4_:=by
 intro X hX
 have key: ∀(k:Nat) (s0_:T0) (s1_:T1) (s2_:T2) (s3_:T3) (s4_:T4),m s0_ s1_ s2_ s3_ s4_<=k->I s0_ s1_ s2_ s3_ s4_->X s0_ s1_ s2_ s3_ s4_:=by
  intro k
  induction k with
  |zero=>exact fun s0_ s1_ s2_ s3_ s4_ _ hi=>hX s0_ s1_ s2_ s3_ s4_ _ (fun s0_' s1_' s2_' s3_' s4_' h=>absurd h.2 (by omega)) (h s0_ s1_ s2_ s3_ s4_ hi)
  |succ k ih=>exact fun s0_ s1_ s2_ s3_ s4_ hk hi=>hX s0_ s1_ s2_ s3_ s4_ _ (fun s0_' s1_' s2_' s3_' s4_' h=>ih s0_' s1_' s2_' s3_' s4_' (by omega) h.1) (h s0_ s1_ s2_ s3_ s4_ hi)
 exact key _ s0_ s1_ s2_ s3_ s4_ (Nat.le_refl _) h0
end Go.Fl
end
section
namespace Go.Fl
open Go Go.RowKit
variable {P:Program}{ops:Array Oper}{Q:Exit->Act->World->Prop}{rest:List Oper}{n:Nat}{f:Fr}{w w':World}{d:Nat}{t:TypeId}{p:String}{af:Array Edge}
variable {c:Cx}{σ:Hv}{ms ms':List HObj}
def y0m(v:Value)(k:ByteArray):Bool:=
 match v with
 | .string a=>decide (a=k)
 |_=>false
def lk:List MapEntry->ByteArray->Option Value
 |[],_=>none
 |e::es,k=>if y0m e.key k=true then some e.val else lk es k
def MBk(es:List MapEntry)(clock:Nat):Prop:=(es.map (·.key)).Nodup/\(es.map (·.born)).Nodup/\ ∀x∈es.map (·.born),x<clock
theorem j5a{β:Type}(g:MapEntry->β)(u:MapEntry->MapEntry){es:List MapEntry}{j:Nat}(h: ∀e,es[j]? =some e->g (u e)=g e):(es.modify j u).map g=es.map g:=by
 apply List.ext_getElem?
 intro i
 rw[List.getElem?_map,List.getElem?_map,List.getElem?_modify]
 by_cases hij:j=i
 ·subst hij
  rcases hq:es[j]? with _|e
  ·rfl
  ·simp[h e hq]
 ·simp[hij]
open Lk in
theorem j6g(a b:ByteArray):Op.bytesLess a.toList b.toList=decide (blt a b):=by
 rw[Go.Proofs.bytesLess_eq,Lib.toList_data,Lib.toList_data];rfl
open Lk in
theorem w1d(a b:ByteArray):(!(decide (blt a b)||decide (a=b)))=decide (blt b a):=by
 by_cases h:blt a b
 ·simp[h,w7q h]
 ·by_cases h2:a=b
  ·subst h2;simp[z7p]
  ·have:blt b a:=Classical.byContradiction fun h3=>h2 (w1c h h3)
   simp[h,h2,this]
end Go.Fl
end
section
namespace Go.Fl
open Go Go.RowKit
variable {P:Program}{w:World}{σ:Hv}
end Go.Fl
end
section
namespace Go.Fl
open Go Go.RowKit
variable {P:Program}{Q:Exit->Act->World->Prop}{n:Nat}{f:Fr}{w:World}
theorem nwi{a r:Int}(h:a=r)(hi:InI r):IntKind.i64.wrap a=r:=nw h (by rw[h];exact hi.1) (by rw[h];exact hi.2)
variable {σ τ:Hv}{c:Cx}{ms ms':List HObj}
theorem j8p{k bytes:Nat}(h:Sml k)(hb:bytes<=32768):k*bytes<=140737488355328/\k<=maxLen:=by
 unfold Sml at h
 refine⟨Nat.le_trans (Nat.mul_le_mul h hb) (by omega),by unfold maxLen;omega⟩
section
variable {ops:Array Oper}{rest:List Oper}{d:Nat}{t:TypeId}{p:String}{af:Array Edge}
end
section
variable {ops:Array Oper}{rest:List Oper}{d:Nat}{t:TypeId}{p:String}{af:Array Edge}
end
section
variable {ops:Array Oper}{md:Region.Mode}
def bt(m k:Nat):Array Bool:=Array.ofFn (n:=m) fun i=>k.testBit i.val
theorem w31(m k i:Nat):(bt m k).setIfInBounds i true=bt m (k|||1<<<i):=by
 apply Array.ext
 ·simp[bt]
 ·intro j h1 h2
  have hj:j<m:=by simpa [bt] using h1
  simp only[bt,Array.getElem_ofFn]
  rw[Array.getElem_setIfInBounds (by simpa using hj)]
  simp only[Array.getElem_ofFn,Nat.testBit_or,Nat.one_shiftLeft,Nat.testBit_two_pow]
  by_cases hij:i=j
  ·simp[hij]
  ·simp[hij]
theorem w7r(m:Nat):Array.replicate m false=bt m 0:=by
 apply Array.ext
 ·simp[bt]
 ·intro j h1 h2;simp[bt]
def chkT(md:Region.Mode)(ops:Array Oper)(m k i k':Nat):Bool:=
 Region.noSelect ops && Region.free md ops (bt m k) i && (Region.ready md ops (bt m k)).contains i && Nat.beq (k|||1<<<i) k'
theorem dt{J:World->Prop}{m k fuel d:Nat}(i k':Nat){oi:Oper}{v:Value}(hc:chkT md ops m k i k'=true)(hi:ops[i]? =some oi)(hd:oi.dst=some d)(hQ: ∀c a w,Q (.panic c) (a.put (some d) v) w->Q (.panic c) a w)(hJ:J w)
  (hy: ∀w,J w-> ∀K:Act->World->Prop,K (mk n (upd f d v)) w->wpList P ops (nrm K) [oi] (mk n f) w)
  (h:wpJ P md ops Q J fuel (bt m k') (mk n (upd f d v)) w):wpJ P md ops Q J (fuel+1) (bt m k) (mk n f) w:=by
 simp only[chkT,Bool.and_eq_true] at hc
 obtain⟨⟨⟨h1,h2⟩,h3⟩,h4⟩:=hc
 exact z5q hi h1 h2 h3 (by rw[w31,Nat.eq_of_beq_eq_true h4]) hd hQ hJ hy h
def chk1(md:Region.Mode)(ops:Array Oper)(m k i k':Nat):Bool:=(match Region.ready md ops (bt m k) with|[j]=>Nat.beq j i|_=>false) && Nat.beq (k|||1<<<i) k'
theorem d1{J:World->Prop}{m k fuel:Nat}(i k':Nat){oi:Oper}(hc:chk1 md ops m k i k'=true)(hi:ops[i]? =some oi)
  (h:wpList P ops (nrm fun a w=>J w/\wpJ P md ops Q J fuel (bt m k') a w) [oi] (mk n f) w):wpJ P md ops Q J (fuel+1) (bt m k) (mk n f) w:=by
 simp only[chk1,Bool.and_eq_true] at hc
 obtain⟨h1,h4⟩:=hc
 refine y0i (i:=i) ?_ hi (by rw[w31,Nat.eq_of_beq_eq_true h4]) h
 split at h1
 ·rename_i j hj;rw[hj,Nat.eq_of_beq_eq_true h1]
 ·cases h1
def chk2(md:Region.Mode)(ops:Array Oper)(m k i j:Nat):Bool:=match Region.ready md ops (bt m k) with|[x,y]=>Nat.beq x i && Nat.beq y j|_=>false
theorem d2{J:World->Prop}{m k fuel:Nat}(i j ki kj:Nat){oi oj:Oper}(hc:chk2 md ops m k i j=true)(hki:k|||1<<<i=ki)(hkj:k|||1<<<j=kj)(hi:ops[i]? =some oi)(hj:ops[j]? =some oj)
  (h:wpList P ops (nrm fun a w=>J w/\wpJ P md ops Q J fuel (bt m ki) a w) [oi] (mk n f) w)(h':wpList P ops (nrm fun a w=>J w/\wpJ P md ops Q J fuel (bt m kj) a w) [oj] (mk n f) w):wpJ P md ops Q J (fuel+1) (bt m k) (mk n f) w:=by
 refine y0j (i:=i) (j:=j) ?_ hi hj (by rw[w31,hki]) (by rw[w31,hkj]) h h'
 unfold chk2 at hc
 split at hc
 ·rename_i x y hxy
  simp only[Bool.and_eq_true] at hc
  rw[hxy,Nat.eq_of_beq_eq_true hc.1,Nat.eq_of_beq_eq_true hc.2]
 ·cases hc
end
section
variable {ops:Array Oper}{rest:List Oper}{d:Nat}{t:TypeId}{p:String}{af:Array Edge}
end
end Go.Fl
end
section
namespace Go.Fl
open Go Go.RowKit
variable {P:Program}{Q:Exit->Act->World->Prop}{n:Nat}{f:Fr}{w w':World}{σ τ:Hv}{c:Cx}{ms ms':List HObj}
variable {ops:Array Oper}{rest:List Oper}{d:Nat}{t:TypeId}{p:String}{af:Array Edge}
abbrev EL(α:Type):=List (ByteArray×Value×List α)
def w7s{α:Type}(T s:Nat)(enc:α->List Value)(es:EL α):List HObj:=es.map fun e=>vec e.2.1 T s e.2.2.length (e.2.2.flatMap enc)
theorem St.perm(h:St c w σ ms)(hp:ms.Perm ms'):St c w σ ms':=
 ⟨h.keeps,h.view,h.sub,h.fresh,fun o ho=>h.own o (hp.mem_iff.2 ho),hp.pairwise h.sep fun hab k hb ha=>hab k ha hb,
  fun o ho=>h.off o (hp.mem_iff.2 ho),fun o ho=>h.new o (hp.mem_iff.2 ho)⟩
def ORel{β:Type}(R:Value->β->Prop):Option Value->Option β->Prop
 |none,none=>True
 |some v,some y=>R v y
 |_,_=>False
theorem ORel.isSome{β:Type}{R:Value->β->Prop}{a:Option Value}{y:Option β}(h:ORel R a y):a.isSome=y.isSome:=by
 cases a<;>cases y<;>first|rfl|exact h.elim
theorem ORel.imp{β:Type}{R S:Value->β->Prop}{a:Option Value}{y:Option β}(h:ORel R a y)(hi: ∀v y,R v y->S v y):ORel S a y:=by
 cases a<;>cases y<;>first|exact h.elim|exact trivial|exact hi _ _ h
theorem ORel.getD{β:Type}{R:Value->β->Prop}{a:Option Value}{y:Option β}(h:ORel R a y){z:Value}{z0:β}(hz:R z z0):R (a.getD z) (y.getD z0):=by
 cases a<;>cases y<;>first|exact h.elim|exact hz|exact h
theorem z0v{es:List MapEntry}(hn:(es.map (·.key)).Nodup){x y:MapEntry}(hx:x∈es)(hy:y∈es)(h:x.key=y.key):x=y:=by
 induction es with
 |nil=>cases hx
 |cons z zs ih=>
  rw[List.map_cons,List.nodup_cons] at hn
  rcases List.mem_cons.1 hx with rfl|hx'<;>rcases List.mem_cons.1 hy with rfl|hy'
  ·rfl
  ·exact absurd (List.mem_map.2 ⟨y,hy',h.symm⟩) hn.1
  ·exact absurd (by rw[←h];exact List.mem_map.2 ⟨x,hx',rfl⟩) hn.1
  ·exact ih hn.2 hx' hy'
theorem j8q{T size k m:Nat}{a:Option Addr}{cap:Nat}{xs:List Value}(h:(vec (.slice a k cap) T size k xs).ok w)(hm:m<=k):(vec (.slice a m cap) T size m (xs.take (m*size))).ok w:=by
 obtain⟨h1,h2⟩:=h
 refine⟨by rw[List.length_take,h1];exact Nat.min_eq_left (Nat.mul_le_mul_right _ hm),?_⟩
 rcases h2 with ⟨h2,h3⟩|⟨g,cap',cur,hv,hg,hh,h3,h4,h5,h6⟩
 ·cases h2
  exact .inl ⟨by rw[show m=0 from by omega],by omega⟩
 ·cases hv
  refine .inr ⟨g,_,cur,rfl,hg,hh,by omega,h4,h5,?_⟩
  rw[←h6,List.take_take,Nat.min_eq_left (Nat.mul_le_mul_right _ hm)]
theorem j6h{v:Value}{T size k:Nat}{xs:List Value}(h:(vec v T size k xs).ok w): ∃a cap,v= .slice a k cap/\k<=cap:=by
 rcases (Hg h).2 with ⟨hv,rfl⟩|⟨g,cap,hv,h1,_⟩
 ·exact⟨_,_,hv,Nat.le_refl _⟩
 ·exact⟨_,_,hv,h1⟩
end Go.Fl
end
section
namespace Go.Fl
open Go Go.RowKit
variable {P:Program}{ops:Array Oper}{Q:Exit->Act->World->Prop}{rest:List Oper}{n:Nat}{f:Fr}{w w':World}{d:Nat}{t:TypeId}{p:String}{af:Array Edge}
variable {c:Cx}{σ:Hv}{ms ms':List HObj}{κ:Type}
open Classical in
def fidx(kenc:κ->Value)(k:κ):List MapEntry->Nat->Option (Nat×Value)
 |[],_=>none
 |e::es,i=>if e.key=kenc k then some (i,e.val) else fidx kenc k es (i+1)
def lkK(kenc:κ->Value)(es:List MapEntry)(k:κ):Option Value:=(fidx kenc k es 0).map (·.2)
def z5r(kenc:κ->Value)(es:List MapEntry):Prop:= ∀e∈es,∃k,e.key=kenc k
structure KeyOk(P:Program)(kt:TypeId)(kenc:κ->Value):Prop where
 inj: ∀a b,kenc a=kenc b->a=b
 check: ∀(e:Bool) (k:κ) (w:World),(Instr.checkKey e 10000 kt (kenc k)).run P w= .ok () w
 find: ∀(es:List MapEntry) (k:κ) (w:World),z5r kenc es->(Instr.findKey kt (kenc k) es).run P w= .ok (fidx kenc k es 0) w
 stays: ∀(k:κ) (w:World),(Instr.keyThatStays (kenc k) (kenc k)).run P w= .ok (kenc k) w
def j1b(kenc:κ->Value)(b:Nat)(m:κ->Option Value):HObj where
 foot:=some b
 ok w:= ∃es clock,w.heap[b]? =some (.map es clock)/\z5r kenc es.toList/\(∀k,lkK kenc es.toList k=m k)/\MBk es.toList clock
 stay w w' h hk:=by
  obtain⟨es,clock,h1,h2⟩:=hk
  exact⟨es,clock,(h b rfl).trans h1,h2⟩
 lt w k hk hf:=by
  cases hf
  obtain⟨es,clock,h1,_⟩:=hk
  exact (Array.getElem?_eq_some_iff.1 h1).1
theorem z1d(kenc:κ->Value)(k:κ): ∀(es:List MapEntry) (i:Nat),(fidx kenc k es i=none/\ ∀e∈es,e.key≠kenc k)∨ ∃j e,fidx kenc k es i=some (i+j,e.val)/\es[j]? =some e/\e.key=kenc k/\ ∀j' e',j'<j->es[j']? =some e'->e'.key≠kenc k
 |[],i=> .inl ⟨rfl,by simp⟩
 |e::es,i=>by
  by_cases hk:e.key=kenc k
  ·exact .inr ⟨0,e,by simp[fidx,hk],rfl,hk,fun j' e' h=>by omega⟩
  ·rcases z1d kenc k es (i+1) with ⟨h1,h2⟩|⟨j,e',h1,h2,h3,h4⟩
   ·refine .inl ⟨by simp[fidx,hk,h1],fun x hx=> ?_⟩
    rcases List.mem_cons.1 hx with rfl|hx
    ·exact hk
    ·exact h2 x hx
   ·refine .inr ⟨j+1,e',by simp[fidx,hk,h1];omega,by simpa using h2,h3,fun j' x hj' hx=> ?_⟩
    cases j' with
    |zero=>simp at hx;subst hx;exact hk
    |succ j'=>exact h4 j' x (by omega) (by simpa using hx)
theorem q39{kenc:κ->Value}{es:List MapEntry}(hn:(es.map (·.key)).Nodup)(k:κ)(v:Value):lkK kenc es k=some v↔ ∃e∈es,e.key=kenc k/\e.val=v:=by
 unfold lkK
 rcases z1d kenc k es 0 with ⟨h1,h2⟩|⟨j,e,h1,h2,h3,_⟩
 ·rw[h1]
  simp only[Option.map_none,reduceCtorEq,false_iff]
  rintro⟨e,he,hk,_⟩
  exact h2 e he hk
 ·rw[h1]
  simp only[Option.map_some,Option.some.injEq]
  constructor
  ·rintro rfl;exact⟨e,List.mem_of_getElem? h2,h3,rfl⟩
  ·rintro⟨e',he',hk',rfl⟩
   rw[z0v hn (List.mem_of_getElem? h2) he' (h3.trans hk'.symm)]
theorem q68{kenc:κ->Value}{es:List MapEntry}(k:κ):lkK kenc es k=none↔ ∀e∈es,e.key≠kenc k:=by
 unfold lkK
 rcases z1d kenc k es 0 with ⟨h1,h2⟩|⟨j,e,h1,h2,h3,_⟩
 ·rw[h1];simpa using h2
 ·rw[h1]
  simp only[Option.map_some,reduceCtorEq,false_iff]
  exact fun h=>h e (List.mem_of_getElem? h2) h3
theorem j8r{kenc:κ->Value}{ty kt et:TypeId}{b:Nat}{m:κ->Option Value}{k:κ}{z:Value}(K:KeyOk P kt kenc)(hu:P.underlying ty=some (.map kt et))(hz: ∀w,(zeroValue et).run P w= .ok z w)(ho:(j1b kenc b m).ok w)(cok:Bool):
  (Instr.lookup ty (.map (some b)) (kenc k) cok).run P w= .ok (if cok then .tuple #[(m k).getD z,.bool (m k).isSome] else (m k).getD z) w:=by
 obtain⟨es,clock,h1,h2,h3,_⟩:=ho
 have hf:=K.find es.toList k w h2
 have hm:=h3 k
 unfold lkK at hm
 unfold Instr.lookup
 rcases hq:fidx kenc k es.toList 0 with _|⟨i,v⟩
 ·rw[hq] at hf hm
  have hm':m k=none:=hm.symm
  cases cok<;>simp[Sem.run_bind,run_underlying hu,MapKept.run_getObj_map h1,K.check,hf,hz,hm']
 ·rw[hq] at hf hm
  have hm':m k=some v:=hm.symm
  cases cok<;>simp[Sem.run_bind,run_underlying hu,MapKept.run_getObj_map h1,K.check,hf,hm']
theorem MBk.pushK{es:List MapEntry}{clock:Nat}(h:MBk es clock){kv:Value}(hn: ∀e∈es,e.key≠kv)(v:Value):MBk (es++[{key:=kv,val:=v,born:=clock}]) (clock+1):=by
 refine⟨?_,?_,?_⟩
 ·rw[List.map_append,List.map_singleton]
  refine List.nodup_append.2 ⟨h.1,by simp,fun a ha b hb=> ?_⟩
  obtain⟨e,he,rfl⟩:=List.mem_map.1 ha
  rw[List.mem_singleton.1 hb]
  exact hn e he
 ·rw[List.map_append,List.map_singleton]
  refine List.nodup_append.2 ⟨h.2.1,by simp,fun a ha b hb=> ?_⟩
  rw[List.mem_singleton.1 hb]
  exact Nat.ne_of_lt (h.2.2 a ha)
 ·intro x hx
  rw[List.map_append,List.map_singleton] at hx
  rcases List.mem_append.1 hx with hx|hx
  ·exact Nat.lt_succ_of_lt (h.2.2 x hx)
  ·rw[List.mem_singleton.1 hx];exact Nat.lt_succ_self _
open Classical in
theorem v1t{kenc:κ->Value}{ty kt et:TypeId}{b:Nat}{m:κ->Option Value}{k:κ}{v:Value}(K:KeyOk P kt kenc)(hu:P.underlying ty=some (.map kt et))(ho:(j1b kenc b m).ok w):
  ∃w',(Instr.mapUpdate ty (.map (some b)) (kenc k) v).run P w= .ok () w'/\Keeps [b] w w'/\(j1b kenc b (fun k'=>if k'=k then some v else m k')).ok w':=by
 obtain⟨es,clock,h1,h2,h3,h4⟩:=ho
 have hlt:b<w.heap.size:=(Array.getElem?_eq_some_iff.1 h1).1
 have hf:=K.find es.toList k w h2
 have hkeep: ∀o:Obj,Keeps [b] w {w with heap:=w.heap.setIfInBounds b o}:=fun o=>
  ⟨rfl,rfl,rfl,by simp,fun j hj hm=>by
   show (w.heap.setIfInBounds b o)[j]? =_
   rw[Array.getElem?_setIfInBounds,if_neg (by intro e;exact hm (by simp[e]))]⟩
 have hget: ∀o:Obj,({w with heap:=w.heap.setIfInBounds b o}:World).heap[b]? =some o:=fun o=>by
  show (w.heap.setIfInBounds b o)[b]? =_
  rw[Array.getElem?_setIfInBounds,if_pos rfl,if_pos hlt]
 rcases z1d kenc k es.toList 0 with ⟨hq,hno⟩|⟨j,e,hq,he,hek,_⟩
 ·rw[hq] at hf
  have hMB:=h4.pushK hno v
  refine⟨_,?_,hkeep (.map (es.push {key:=kenc k,val:=v,born:=clock}) (clock+1)),⟨_,_,hget _,?_,fun k'=> ?_,by rw[Array.toList_push];exact hMB⟩⟩
  ·unfold Instr.mapUpdate
   simp[Sem.run_bind,run_underlying hu,MapKept.run_getObj_map h1,K.check,hf,MapKept.run_setObj_map _ h1]
  ·intro e he
   simp only[Array.toList_push,List.mem_append,List.mem_singleton] at he
   rcases he with he|rfl
   ·exact h2 e he
   ·exact⟨k,rfl⟩
  ·rw[Array.toList_push]
   show _=if k'=k then some v else m k'
   by_cases hk:k'=k
   ·subst hk
    rw[if_pos rfl]
    exact (q39 hMB.1 k' v).2 ⟨{key:=kenc k',val:=v,born:=clock},by simp,rfl,rfl⟩
   ·rw[if_neg hk,←h3]
    rcases hr:lkK kenc es.toList k' with _|u
    ·refine (q68 k').2 fun e he=> ?_
     rcases List.mem_append.1 he with he|he
     ·exact (q68 k').1 hr e he
     ·rw[List.mem_singleton.1 he];exact fun hh=>hk (K.inj _ _ hh).symm
    ·obtain⟨e,he,h5,h6⟩:=(q39 h4.1 k' u).1 hr
     exact (q39 hMB.1 k' u).2 ⟨e,by simp[he],h5,h6⟩
 ·rw[hq,Nat.zero_add] at hf
  have hkt: ∀w,(Instr.keyThatStays (((es[j]?).map (·.key)).getD (kenc k)) (kenc k)).run P w= .ok (kenc k) w:=fun w=>by
   have:es[j]? =some e:=by rw[←he];simp
   rw[this]
   simp only[Option.map_some,Option.getD_some,hek]
   exact K.stays k w
  have m1:=j5a (es:=es.toList) (j:=j) (·.key) (fun e:MapEntry=>{e with key:=kenc k,val:=v}) (fun e' he'=>by rw[he] at he';cases he';exact hek.symm)
  have m2:=j5a (es:=es.toList) (j:=j) (·.born) (fun e:MapEntry=>{e with key:=kenc k,val:=v}) (fun _ _=>rfl)
  have hMB:MBk (es.modify j fun e=>{e with key:=kenc k,val:=v}).toList clock:=by
   rw[Array.toList_modify]
   exact⟨by rw[m1];exact h4.1,by rw[m2];exact h4.2.1,by rw[m2];exact h4.2.2⟩
  have hmem: ∀e',e'∈(es.modify j fun e=>{e with key:=kenc k,val:=v}).toList↔(e'∈es.toList/\e'.key≠kenc k)∨e'={e with key:=kenc k,val:=v}:=by
   intro e'
   rw[Array.toList_modify,List.mem_iff_getElem?]
   constructor
   ·rintro⟨q,hq⟩
    rw[List.getElem?_modify] at hq
    simp only[Option.map_eq_map,Option.map_eq_some_iff] at hq
    obtain⟨x,hx,rfl⟩:=hq
    split
    ·rename_i hjq
     subst hjq
     rw[he] at hx;cases hx
     exact .inr rfl
    ·rename_i hjq
     refine .inl ⟨List.mem_of_getElem? hx,fun hxk=>hjq ?_⟩
     obtain⟨a1,b1⟩:=List.getElem?_eq_some_iff.1 he
     obtain⟨a2,b2⟩:=List.getElem?_eq_some_iff.1 hx
     have hp:=List.pairwise_iff_getElem.1 h4.1
     rcases Nat.lt_trichotomy j q with h|h|h
     ·have h5:=hp j q (by simpa using a1) (by simpa using a2) h
      rw[List.getElem_map,List.getElem_map,b1,b2,hek,hxk] at h5
      exact absurd rfl h5
     ·exact h
     ·have h5:=hp q j (by simpa using a2) (by simpa using a1) h
      rw[List.getElem_map,List.getElem_map,b1,b2,hek,hxk] at h5
      exact absurd rfl h5
   ·rintro (⟨hx,hne⟩|rfl)
    ·obtain⟨q,hq⟩:=List.mem_iff_getElem?.1 hx
     refine⟨q,?_⟩
     rw[List.getElem?_modify,hq]
     simp only[Option.map_eq_map,Option.map_some,Option.some.injEq]
     rw[if_neg]
     intro hjq;subst hjq
     rw[he] at hq;cases hq;exact hne hek
    ·refine⟨j,?_⟩
     rw[List.getElem?_modify,he];simp
  refine⟨_,?_,hkeep (.map (es.modify j fun e=>{e with key:=kenc k,val:=v}) clock),⟨_,_,hget _,?_,fun k'=> ?_,hMB⟩⟩
  ·unfold Instr.mapUpdate
   simp[Sem.run_bind,run_underlying hu,MapKept.run_getObj_map h1,K.check,hf,hkt,MapKept.run_setObj_map _ h1]
  ·intro e' he'
   rcases (hmem e').1 he' with ⟨h5,_⟩|rfl
   ·exact h2 e' h5
   ·exact⟨k,rfl⟩
  ·show _=if k'=k then some v else m k'
   by_cases hk:k'=k
   ·subst hk
    rw[if_pos rfl]
    exact (q39 hMB.1 k' v).2 ⟨_,(hmem _).2 (.inr rfl),rfl,rfl⟩
   ·rw[if_neg hk,←h3]
    rcases hr:lkK kenc es.toList k' with _|u
    ·refine (q68 k').2 fun e' he'=> ?_
     rcases (hmem e').1 he' with ⟨h5,_⟩|rfl
     ·exact (q68 k').1 hr e' h5
     ·exact fun hh=>hk (K.inj _ _ hh).symm
    ·obtain⟨e',he',h5,h6⟩:=(q39 h4.1 k' u).1 hr
     exact (q39 hMB.1 k' u).2 ⟨e',(hmem e').2 (.inl ⟨he',fun hh=>hk (K.inj _ _ (h5.symm.trans hh))⟩),h5,h6⟩
theorem w7t{l:List MapEntry}{j:Nat}{e:MapEntry}(hn:(l.map (·.key)).Nodup)(he:l[j]? =some e): ∀x,x∈l.eraseIdx j↔x∈l/\x.key≠e.key:=by
 obtain⟨hlt,hj⟩:=List.getElem?_eq_some_iff.1 he
 obtain⟨a,b,rfl,rfl⟩: ∃a b,l=a++e::b/\a.length=j:=⟨l.take j,l.drop (j+1),by rw[←hj,←List.drop_eq_getElem_cons hlt,List.take_append_drop],by rw[List.length_take];omega⟩
 rw[List.eraseIdx_append_of_length_le (Nat.le_refl _),Nat.sub_self]
 rw[List.map_append,List.map_cons,List.nodup_append,List.nodup_cons] at hn
 intro x
 constructor
 ·intro hx
  rcases List.mem_append.1 hx with hx|hx
  ·exact⟨List.mem_append_left _ hx,hn.2.2 _ (List.mem_map_of_mem hx) _ List.mem_cons_self⟩
  ·exact⟨List.mem_append_right _ (List.mem_cons_of_mem _ hx),fun hk=>hn.2.1.1 (by rw[←hk];exact List.mem_map_of_mem hx)⟩
 ·rintro⟨hx,hk⟩
  rcases List.mem_append.1 hx with hx|hx
  ·exact List.mem_append_left _ hx
  ·rcases List.mem_cons.1 hx with rfl|hx
   ·exact absurd rfl hk
   ·exact List.mem_append_right _ hx
open Classical in
theorem v1u{kenc:κ->Value}{ty kt et tt:TypeId}{ts:Array TypeId}{b:Nat}{m:κ->Option Value}{k:κ}(K:KeyOk P kt kenc)(hu:P.underlying ty=some (.map kt et))(hts:ts[0]? =some ty)(ho:(j1b kenc b m).ok w):
  ∃w',(Builtin.delete_ ts tt #[.map (some b),kenc k]).run P w= .ok (.tuple #[]) w'/\Keeps [b] w w'/\(j1b kenc b (fun k'=>if k'=k then none else m k')).ok w':=by
 obtain⟨es,clock,h1,h2,h3,h4⟩:=ho
 have hlt:b<w.heap.size:=(Array.getElem?_eq_some_iff.1 h1).1
 have hf:=K.find es.toList k w h2
 have hkeep: ∀o:Obj,Keeps [b] w {w with heap:=w.heap.setIfInBounds b o}:=fun o=>
  ⟨rfl,rfl,rfl,by simp,fun j hj hm=>by
   show (w.heap.setIfInBounds b o)[j]? =_
   rw[Array.getElem?_setIfInBounds,if_neg (by intro e;exact hm (by simp[e]))]⟩
 have hget: ∀o:Obj,({w with heap:=w.heap.setIfInBounds b o}:World).heap[b]? =some o:=fun o=>by
  show (w.heap.setIfInBounds b o)[b]? =_
  rw[Array.getElem?_setIfInBounds,if_pos rfl,if_pos hlt]
 rcases z1d kenc k es.toList 0 with ⟨hq,hno⟩|⟨j,e,hq,he,hek,_⟩
 ·rw[hq] at hf
  refine⟨_,?_,hkeep (.map es clock),⟨_,_,hget _,h2,fun k'=> ?_,h4⟩⟩
  ·unfold Builtin.delete_
   simp[Sem.run_bind,hts,run_underlying hu,MapKept.run_getObj_map h1,K.check,hf,MapKept.run_setObj_map _ h1]
  ·show _=if k'=k then none else m k'
   by_cases hk:k'=k
   ·subst hk;rw[if_pos rfl];exact (q68 k').2 hno
   ·rw[if_neg hk];exact h3 k'
 ·rw[hq,Nat.zero_add] at hf
  have hmem:=w7t h4.1 he
  have hlist:(es.eraseIdxIfInBounds j).toList=es.toList.eraseIdx j:=by simp
  have hMB:MBk (es.eraseIdxIfInBounds j).toList clock:=by
   rw[hlist]
   have hs:=List.eraseIdx_sublist es.toList j
   exact⟨h4.1.sublist (hs.map _),h4.2.1.sublist (hs.map _),fun x hx=>h4.2.2 x ((hs.map _).subset hx)⟩
  refine⟨_,?_,hkeep (.map (es.eraseIdxIfInBounds j) clock),⟨_,_,hget _,?_,fun k'=> ?_,hMB⟩⟩
  ·unfold Builtin.delete_
   simp[Sem.run_bind,hts,run_underlying hu,MapKept.run_getObj_map h1,K.check,hf,MapKept.run_setObj_map _ h1]
  ·intro e' he'
   rw[hlist] at he'
   exact h2 e' ((hmem e').1 he').1
  ·rw[hlist] at hMB⊢
   show _=if k'=k then none else m k'
   by_cases hk:k'=k
   ·subst hk
    rw[if_pos rfl]
    exact (q68 k').2 fun e' he' hh=>((hmem e').1 he').2 (hh.trans hek.symm)
   ·rw[if_neg hk,←h3]
    rcases hr:lkK kenc es.toList k' with _|u
    ·exact (q68 k').2 fun e' he'=>(q68 k').1 hr e' ((hmem e').1 he').1
    ·obtain⟨e',he',h5,h6⟩:=(q39 h4.1 k' u).1 hr
     exact (q39 hMB.1 k' u).2 ⟨e',(hmem e').2 ⟨he',fun hh=>hk (K.inj _ _ (h5.symm.trans (hh.trans hek)))⟩,h5,h6⟩
theorem w7u{kt:TypeId}{q:IntKind}(hk:P.underlying kt=some (.int q)):KeyOk P kt (fun x:Int=> .int q x) where
 inj a b h:=by simpa using h
 check e k w:=by unfold Instr.checkKey;simp[Sem.run_bind,run_underlying hk]
 find es k w h:=by
  have key: ∀(es:List MapEntry) (i:Nat),z5r (fun x:Int=>Value.int q x) es->Instr.findNow (.int q) (.int q k) es i=some (fidx (fun x:Int=>Value.int q x) k es i):=by
   intro es
   induction es with
   |nil=>intro i _;rfl
   |cons e es ih=>
    intro i h
    obtain⟨a,ha⟩:=h e (by simp)
    have ih':=ih (i+1) fun x hx=>h x (by simp[hx])
    by_cases hka:k=a
    ·subst hka;simp[Instr.findNow,ha,Instr.sameNow,fidx]
    ·have hak: ¬a=k:=fun e=>hka e.symm
     have hb:(k==a)=false:=by simp[hka]
     simp[Instr.findNow,ha,Instr.sameNow,fidx,hb,hak,ih']
  unfold Instr.findKey
  simp[Sem.run_bind,run_underlying hk,key es 0 h]
 stays k w:=by unfold Instr.keyThatStays;simp[Instr.sameBits]
def itrK(kenc:κ->Value)(r b:Nat)(es:Array MapEntry)(clock:Nat)(done:List κ)(cur:Option (κ×Value)):HObj where
 foot:=some r
 ok w:= ∃seen,w.heap[r]? =some (.mapIter (some b) clock seen clock)/\(∀e∈es.toList,e.born∈seen.toList↔ ∃k∈done,e.key=kenc k)/\
  ∀kv,cur=some kv-> ∃(s0:Array Nat) (e:MapEntry),seen=s0.push e.born/\e∈es.toList/\e.key=kenc kv.1/\e.val=kv.2
 stay w w' h hk:=by
  obtain⟨seen,h1,h2⟩:=hk
  exact⟨seen,(h r rfl).trans h1,h2⟩
 lt w k hk hf:=by
  cases hf
  obtain⟨seen,h1,_⟩:=hk
  exact (Array.getElem?_eq_some_iff.1 h1).1
theorem w7v{kenc:κ->Value}{ty r b clock:Nat}{es:Array MapEntry}{done:List κ}{cur:Option (κ×Value)}(hi:(itrK kenc r b es clock done cur).ok w)(hb:w.heap[b]? =some (.map es clock))(hK:z5r kenc es.toList)(hM:MBk es.toList clock):
  ((∀k v,lkK kenc es.toList k=some v-> ∃k'∈done,kenc k=kenc k')/\(Instr.next (.pointer (some ⟨r,0,none⟩)) false ty).run P w= .ok (.tuple #[.bool false]) w)∨
  ∃k v w',lkK kenc es.toList k=some v/\k∉done/\(Instr.next (.pointer (some ⟨r,0,none⟩)) false ty).run P w= .ok (.tuple #[.bool true,kenc k,v]) w'/\Keeps [r] w w'/\(itrK kenc r b es clock (k::done) (some (k,v))).ok w':=by
 obtain⟨seen,k1,k2,k3⟩:=hi
 have hold: ∀x∈es.toList,x.born<clock:=fun x hx=>hM.2.2 _ (List.mem_map.2 ⟨x,hx,rfl⟩)
 have hmem: ∀e,e∈(leftOf es seen).toList↔e∈es.toList/\e.born∉seen.toList:=by intro e;simp[leftOf]
 rcases run_next_at (P:=P) w ty r b clock clock seen es clock k1 hb hold (Nat.le_refl _) with ⟨hz,hr⟩|⟨e,he,w1,hw,hr⟩
 ·refine .inl ⟨fun k v hk=> ?_,hr⟩
  obtain⟨e,he,hek,_⟩:=(q39 hM.1 k v).1 hk
  have hin:e.born∈seen.toList:=by
   rcases Classical.em (e.born∈seen.toList) with hh|hh
   ·exact hh
   ·exfalso
    have:=(hmem e).2 ⟨he,hh⟩
    rw[Array.eq_empty_of_size_eq_zero hz] at this
    simp at this
  obtain⟨k',hk',e'⟩:=(k2 e he).1 hin
  exact⟨k',hk',hek.symm.trans e'⟩
 ·obtain⟨hes,hns⟩:=(hmem e).1 he
  obtain⟨k,hk⟩:=hK e hes
  have hlt:r<w.heap.size:=(Array.getElem?_eq_some_iff.1 k1).1
  have hheap:w1.heap=w.heap:=by rcases hw with rfl|rfl<;>rfl
  rw[hk] at hr
  refine .inr ⟨k,e.val,_,(q39 hM.1 k e.val).2 ⟨e,hes,hk,rfl⟩,fun hd=>hns ((k2 e hes).2 ⟨k,hd,hk⟩),hr,⟨?_,?_,?_,?_,fun j hj hm=> ?_⟩,⟨seen.push e.born,?_,fun e' he'=> ?_,fun kv hkv=> ?_⟩⟩
  ·rcases hw with rfl|rfl<;>rfl
  ·rcases hw with rfl|rfl<;>rfl
  ·rcases hw with rfl|rfl<;>rfl
  ·simp[ChangeMaps.setBlock,hheap]
  ·show (w1.heap.setIfInBounds r _)[j]? =_
   rw[Array.getElem?_setIfInBounds,if_neg (by intro e;exact hm (by simp[e])),hheap]
  ·show (w1.heap.setIfInBounds r _)[r]? =_
   rw[Array.getElem?_setIfInBounds,if_pos rfl,hheap,if_pos hlt]
  ·rw[Array.toList_push,List.mem_append,k2 e' he',List.mem_singleton]
   constructor
   ·rintro (⟨q,h1,h2⟩|hb)
    ·exact⟨q,by simp[h1],h2⟩
    ·have h5:=find_born e es.toList hM.2.1 hes
     have h6:=find_born e' es.toList hM.2.1 he'
     rw[hb,h5] at h6
     cases h6
     exact⟨k,by simp,hk⟩
   ·rintro⟨q,h1,h2⟩
    rcases List.mem_cons.1 h1 with rfl|h1
    ·right
     exact congrArg MapEntry.born (z0v hM.1 he' hes (h2.trans hk.symm))
    ·exact .inl ⟨q,h1,h2⟩
  ·cases hkv
   exact⟨seen,e,rfl,hes,hk,rfl⟩
theorem y0n{kenc:κ->Value}{es:List MapEntry}(hK:z5r kenc es)(hM:(es.map (·.key)).Nodup)(hinj: ∀a b,kenc a=kenc b->a=b): ∃ks:List κ,ks.Nodup/\ ∀k,k∈ks↔(lkK kenc es k).isSome=true:=by
 have hl: ∃ks:List κ,es.map (·.key)=ks.map kenc:=by
  clear hM
  induction es with
  |nil=>exact⟨[],rfl⟩
  |cons x xs ih=>
   obtain⟨ks,hk⟩:=ih fun e he=>hK e (by simp[he])
   obtain⟨k,hx⟩:=hK x (by simp)
   exact⟨k::ks,by simp[hx,hk]⟩
 obtain⟨ks,hks⟩:=hl
 refine⟨ks,?_,fun k=> ?_⟩
 ·have:=hM
  rw[hks] at this
  exact (List.pairwise_map.1 this).imp fun hab e=>hab (by rw[e])
 ·rw[Option.isSome_iff_exists]
  constructor
  ·intro hm
   have hmm:kenc k∈es.map (·.key):=by rw[hks];exact List.mem_map.2 ⟨k,hm,rfl⟩
   obtain⟨e,he,hek⟩:=List.mem_map.1 hmm
   exact⟨e.val,(q39 hM k e.val).2 ⟨e,he,hek,rfl⟩⟩
  ·rintro⟨v,hv⟩
   obtain⟨e,he,hek,_⟩:=(q39 hM k v).1 hv
   have hmm:e.key∈ks.map kenc:=by rw[←hks];exact List.mem_map.2 ⟨e,he,rfl⟩
   obtain⟨k',hk',e'⟩:=List.mem_map.1 hmm
   rw[hek] at e'
   rw[←hinj _ _ e'];exact hk'
end Go.Fl
end
end
noncomputable section
set_option maxRecDepth 100000
namespace Go.Fx
open Go Go.RowKit Go.Fl Go.Fl.Lk
structure Sig where
 C:Type
 car:C->Type
 dec:DecidableEq C
inductive FV(S:Sig):Type where
 |bool (b:Bool)
 |int (k:IntKind) (n:Int)
 |str (s:ByteArray)
 |nils
 |nilp
 |nilm
 |nilf
 |ifc (b:Bool)
 |sl (T:S.C) (l:List (S.car T))
 |any
inductive SV(S:Sig):Type where
 |f (x:FV S)
 |lit (b:Bool)
 |pb (p:Prop) (d:Decidable p) (neg:Bool)
 |agg (l:List (SV S))
 |tup (l:List (SV S))
 |arr (T:S.C) (N:Nat) (l:List (S.car T))
 |ref (o off:Nat)
 |eref (T:S.C) (o i off:Nat)
 |aref (T:S.C) (N o i off:Nat)
 |fptr (l:List (FV S)) (off:Nat)
 |fap (T:S.C) (N:Nat) (l:List (S.car T))
 |hnd (o:Nat)
 |cut (o sz:Nat) (lo hi:Int)
 |fn (g:Nat) (first cap:List (SV S))
 |und
 |lk
 |dead
inductive AO(S:Sig):Type where
 |cells (ty:TypeId) (l:List (SV S))
 |vec (e:TypeId) (T:S.C) (l:List (S.car T))
 |frz (T:S.C) (l:List (S.car T))
 |arr (ty:TypeId) (T:S.C) (N:Nat) (l:List (S.car T))
 |map (K V:S.C) (F:S.car K->Option (S.car V))
 |iter (K V:S.C) (F:S.car K->Option (S.car V)) (done:List (S.car K)) (cur:Option (S.car K×S.car V))
 |siter (s:ByteArray) (pos:Nat)
 |vech (e:TypeId) (T:S.C) (l:List (S.car T)) (k f:Nat) (q:SV S)
structure AS(S:Sig) where
 slots:Nat->SV S
 objs:List (Nat×AO S)
 next:Nat
structure Ro(S:Sig) where
 slots:Nat->SV S
 lock:List Nat
 objs:List (Nat×AO S)
 cell:Nat->Nat->SV S
 stamp:Nat:=0
 glob:Nat->SV S:=fun _=> .dead
variable {S:Sig}
def hasN:List Nat->Nat->Bool
 |[],_=>false
 |a::l,b=>bif Nat.beq a b then true else hasN l b
def Zb{α:Type}:List (Nat×α)->Nat->Option α
 |[],_=>none
 |(a,x)::l,b=>bif Nat.beq a b then some x else Zb l b
def delN{α:Type}:List (Nat×α)->Nat->List (Nat×α)
 |[],_=>[]
 |(a,x)::l,b=>bif Nat.beq a b then l else (a,x)::delN l b
def Bt{α:Type}:List (Nat×α)->List Nat->List (Nat×α)
 |l,[]=>l
 |l,b::bs=>Bt (delN l b) bs
def updS(f:Nat->SV S)(d:Nat)(v:SV S):Nat->SV S:=fun j=>bif Nat.beq j d then v else f j
def Vw(T T':S.C)(l:List (S.car T))(k:List (S.car T')->Prop):Prop:=
 match S.dec T T' with
 |isTrue h=>k (h▸l)
 |isFalse _=>False
def q9e(K V:S.C)(F:S.car K->Option (S.car V))(K' V':S.C)(k:(S.car K'->Option (S.car V'))->Prop):Prop:=
 match S.dec K K',S.dec V V' with
 |isTrue h,isTrue h'=>k (h▸h'▸F)
 |_,_=>False
structure Shp(S:Sig) where
 size:S.C->Nat
 shape:(T:S.C)->S.car T->List (FV S)
 bld:(T:S.C)->List (FV S)->Option (S.car T)
 zero:(T:S.C)->S.car T
 code:TypeId->Option S.C
 acode:TypeId->Option (S.C×Nat)
 mcode:TypeId->Option (S.C×S.C)
 kdec:(T:S.C)->DecidableEq (S.car T)
 glob:Nat->SV S:=fun _=> .dead
 gopen:Nat->Option IntKind:=fun _=>none
 gblk:Nat->Option (Array Value):=fun _=>none
 flat:S.C->Bool:=fun _=>false
 bts:Option ((T:S.C)×(ByteArray->List (S.car T))):=none
 unb:Option ((T:S.C)×(List (S.car T)->ByteArray)):=none
def w1e:Value->SV S
 | .bool b=> .lit b
 | .int k n=> .f (.int k n)
 | .string s=> .f (.str s)
 | .pointer none=> .f .nilp
 | .slice none 0 0=> .f .nils
 | .map none=> .f .nilm
 | .nilFunc=> .f .nilf
 |_=> .dead
def j5b:Value->FV S
 | .bool b=> .bool b
 | .int k n=> .int k n
 | .string s=> .str s
 | .slice none 0 0=> .nils
 | .pointer none=> .nilp
 | .map none=> .nilm
 |_=> .nilf
def isZ:Value->Bool
 | .bool _=>true
 | .int _ _=>true
 | .string _=>true
 | .slice none 0 0=>true
 | .pointer none=>true
 | .map none=>true
 | .nilFunc=>true
 |_=>false
def toF(ob:Nat->Option (AO S)):SV S->Option (FV S×List Nat)
 | .f x=>some (x,[])
 | .lit b=>some (.bool b,[])
 | .pb p d false=>some (.bool (@decide p d),[])
 | .pb p d true=>some (.bool (!@decide p d),[])
 | .hnd o=>match ob o with
  |some (.frz T l)=>some (.sl T l,[])
  |some (.vec _ T l)=>some (.sl T l,[o])
  |_=>none
 |_=>none
def toFs(ob:Nat->Option (AO S)):List (SV S)->Option (List (FV S)×List Nat)
 |[]=>some ([],[])
 |s::l=>match toF ob s with
  |some (x,a)=>match toFs ob l with
   |some (xs,b)=>some (x::xs,a++b)
   |none=>none
  |none=>none
def z1e:SV S->Option (List (SV S))
 | .agg l=>some l
 | .arr _ _ _=>none
 | .tup _=>none
 | .dead=>none
 | .und=>none
 | .lk=>none
 |s=>some [s]
def svOf(l:List (FV S)):SV S:=
 match l with
 |[x]=> .f x
 |l=> .agg (l.map SV.f)
def Keys{κ α:Type}(F:κ->Option α)(ks:List κ):Prop:=ks.Nodup/\ ∀k,k∈ks↔(F k).isSome=true
def v8d{κ α:Type}(F:κ->Option α)(done:List κ):Prop:= ∀k,(F k).isSome=true->k∈done
def y0o{κ:Type}(k:κ)(done:List κ):Prop:=k∉done
def keyS:SV S->Option (List (SV S))
 | .agg (a::b::l)=>some (a::b::l)
 | .agg _=>none
 |s=>z1e s
def tst(s:SV S)(A B:Prop):Prop:=
 match s with
 | .lit true=>A
 | .lit false=>B
 | .f (.bool b)=>Cnd (b=true) A B
 | .pb p _ false=>Cnd p A B
 | .pb p _ true=>Cnd p B A
 |_=>False
def aggQ(P:Program)(t:TypeId):Bool:=
 match P.underlying t with
 |some (.struct _)=>true
 |some (.array _ _)=>true
 |_=>false
def szQ(P:Program)(t:TypeId):Nat:=
 match P.info? t with
 |some i=>i.size
 |none=>0
def hasT(P:Program)(t:TypeId):Bool:=(P.info? t).isSome && (P.underlying t).isSome
def resL(lkc:Nat->SV S):Nat->List (SV S)->List (SV S)
 |_,[]=>[]
 |i,.lk::l=>lkc i::resL lkc (i+1) l
 |i,s::l=>s::resL lkc (i+1) l
def subS(P:Program)(t:TypeId)(l:List (SV S))(off:Nat):Option (SV S):=
 bif hasT P t then
  bif aggQ P t then (bif Nat.ble (off+szQ P t) l.length then some (.agg ((l.drop off).take (szQ P t))) else none) else l[off]?
 else none
def optK{α:Type}(o:Option α)(k:α->Prop):Prop:=
 match o with
 |some x=>k x
 |none=>False
def w5c:SV S->Option Bool
 | .lit b=>some b
 | .f (.bool b)=>some b
 | .pb p d false=>some (@decide p d)
 | .pb p d true=>some (!@decide p d)
 |_=>none
def j8s(k:IntKind)(r:Int)(K:SV S->Prop):Prop:=
 match k with
 | .i64=>InI r/\K (.f (.int .i64 r))
 |k=>K (.f (.int k (k.wrap r)))
def binI(op:BinOp)(k:IntKind)(a b:Int)(K:SV S->Prop):Prop:=
 match op with
 | .add=>j8s k (a+b) K
 | .sub=>j8s k (a - b) K
 | .mul=>j8s k (a*b) K
 | .quo=>b≠0/\j8s k (a.tdiv b) K
 | .rem=>b≠0/\K (.f (.int k (a.tmod b)))
 | .eql=>K (.pb (a=b) inferInstance false)
 | .neq=>K (.pb (a=b) inferInstance true)
 | .lss=>K (.pb (a<b) inferInstance false)
 | .leq=>K (.pb (a<=b) inferInstance false)
 | .gtr=>K (.pb (b<a) inferInstance false)
 | .geq=>K (.pb (b<=a) inferInstance false)
 |_=>False
def binT(op:BinOp)(a b:ByteArray)(K:SV S->Prop):Prop:=
 match op with
 | .add=>((a.size+b.size:Nat):Int)<=9223372036854775807/\K (.f (.str (a++b)))
 | .eql=>K (.pb (a=b) inferInstance false)
 | .neq=>K (.pb (a=b) inferInstance true)
 | .lss=>K (.pb (blt a b) inferInstance false)
 | .leq=>K (.pb (blt b a) inferInstance true)
 | .gtr=>K (.pb (blt b a) inferInstance false)
 | .geq=>K (.pb (blt a b) inferInstance true)
 |_=>False
inductive FK where
 |int (k:IntKind)
 |bool
 |str
def j8t:FV S->Option FK
 | .int k _=>some (.int k)
 | .bool _=>some .bool
 | .str _=>some .str
 |_=>none
def z0w(P:Program)(t:TypeId):Option FK:=
 match P.underlying t with
 |some (.int k)=>some (.int k)
 |some .bool=>some .bool
 |some .string=>some .str
 |_=>none
def w32(P:Program):Nat->List Field->Option (List FK)
 |_,[]=>some []
 |i,f::fs=>bif decide (f.name≠ "_") && Nat.beq f.offset i then (match z0w P f.type,w32 P (i+1) fs with
  |some k,some ks=>some (k::ks)
  |_,_=>none) else none
def w1f(P:Program)(t:TypeId):Option (List FK):=
 match P.underlying t with
 |some (.struct fs)=>bif P.stoodInHeld t then none else w32 P 0 fs.toList
 |some (.array n e)=>bif (P.info? e).isSome && Nat.beq (P.cellsOf e) 1 then (z0w P e).map (List.replicate n) else none
 |_=>none
def j5c(k:FK)(a b:SV S):Option ((p:Prop)×' Decidable p):=
 match k with
 | .int k=>(match a,b with
  | .f (.int k1 x),.f (.int k2 y)=>bif k1==k && k2==k then some ⟨x=y,inferInstance⟩ else none
  |_,_=>none)
 | .bool=>(match w5c a,w5c b with
  |some x,some y=>some ⟨x=y,inferInstance⟩
  |_,_=>none)
 | .str=>(match a,b with
  | .f (.str x),.f (.str y)=>some ⟨x=y,inferInstance⟩
  |_,_=>none)
def q4a:List FK->List (SV S)->List (SV S)->Option ((p:Prop)×' Decidable p)
 |[k],[a],[b]=>j5c k a b
 |k::ks,a::l,b::l'=>(match j5c k a b,q4a ks l l' with
  |some ⟨p,d⟩,some ⟨q,e⟩=>some ⟨p/\q,@instDecidableAnd p q d e⟩
  |_,_=>none)
 |_,_,_=>none
def y2n:FV S->Bool
 | .nils=>true
 |_=>false
def binS(P:Program)(op:BinOp)(t:TypeId)(x y:SV S)(K:SV S->Prop):Prop:=
 match x,y with
 | .f (.int k a),.f (.int k' b)=>(match op with
  | .shl=>0<=b/\K (.f (.int k (k.wrap (a*2 ^ min b.toNat k.bits))))
  | .shr=>0<=b/\K (.f (.int k (a.fdiv (2 ^ min b.toNat k.bits))))
  | .and=>bif k==k' then K (.f (.int k (k.wrap (BitVec.ofInt k.bits a &&& BitVec.ofInt k.bits b).toNat))) else False
  | .or=>bif k==k' then K (.f (.int k (k.wrap (BitVec.ofInt k.bits a|||BitVec.ofInt k.bits b).toNat))) else False
  | .xor=>bif k==k' then K (.f (.int k (k.wrap (BitVec.ofInt k.bits a ^^^ BitVec.ofInt k.bits b).toNat))) else False
  |op=>bif k==k' then binI op k a b K else False)
 | .f (.str a),.f (.str b)=>binT op a b K
 | .f (.sl _ l),.f .nils=>(match P.underlying t with
  |some (.slice _)=>(match op with
   | .eql=> ∀n:Bool,(n=true->l=[])->K (.f (.bool n))
   | .neq=> ∀n:Bool,(n=false->l=[])->K (.f (.bool n))
   |_=>False)
  |_=>False)
 | .ref _ _,.f .nilp=>(match P.underlying t with
  |some (.pointer _)=>(match op with
   | .eql=>K (.lit false)
   | .neq=>K (.lit true)
   |_=>False)
  |_=>False)
 | .agg l,.agg l'=>(match w1f P t with
  |some ks=>bif !P.eqGuardType P.depth t then optK (q4a ks l l') fun q=>(match op with
   | .eql=>K (.pb q.1 q.2 false)
   | .neq=>K (.pb q.1 q.2 true)
   |_=>False) else False
  |none=>False)
 |x,y=>match P.underlying t,w5c x,w5c y with
  |some .bool,some a,some b=>(match op with
   | .eql=>K (.pb (a=b) inferInstance false)
   | .neq=>K (.pb (a=b) inferInstance true)
   |_=>False)
  |_,_,_=>False
def w7w(place:Nat->Option (Nat×Nat))(cells:List (SV S)):List (Nat×SV S)->Option (List (SV S))
 |[]=>some cells
 |(i,s)::rest=>match place i,z1e s with
  |some (off,n),some cs=>bif Nat.beq cs.length n && Nat.ble (off+n) cells.length then w7w place (cells.take off++cs++cells.drop (off+n)) rest else none
  |_,_=>none
def lenS(ob:Nat->Option (AO S))(s:SV S)(K:SV S->Prop):Prop:=
 match s with
 | .f (.sl _ l)=>l.length<=9223372036854775807->K (.f (.int .i64 ((l.length:Nat):Int)))
 | .f .nils=>K (.f (.int .i64 0))
 | .hnd o=>match ob o with
  |some (.vec _ _ l)=>l.length<=9223372036854775807->K (.f (.int .i64 ((l.length:Nat):Int)))
  |some (.frz _ l)=>l.length<=9223372036854775807->K (.f (.int .i64 ((l.length:Nat):Int)))
  |_=>False
 |_=>False
def lstS(ob:Nat->Option (AO S))(s:SV S):Option ((T:S.C)×List (S.car T)):=
 match s with
 | .f (.sl T l)=>some ⟨T,l⟩
 | .hnd o=>match ob o with
  |some (.frz T l)=>some ⟨T,l⟩
  |_=>none
 |_=>none
def v4c:Operand->Bool
 | .const _=>true
 |_=>false
def w7x:Nat->(Nat->Prop)->Prop
 |0,_=>True
 |n+1,f=>w7x n f/\f n
theorem j8u{f:Nat->Prop}: ∀{n m:Nat},w7x n f->m<n->f m
 |n+1,m,h,hm=>by
  rcases Nat.lt_or_ge m n with hl|hl
  ·exact j8u h.1 hl
  ·rw[show m=n by omega];exact h.2
def wrpS(e:Operand->SV S)(o:Op)(K:SV S->Prop):Prop:=
 match o with
 | .binOp op _ x y _=>(match e x,e y with
  | .f (.int k a),.f (.int k' b)=>bif k==k' then (match op with
   | .add=>K (.f (.int k (k.wrap (a+b))))
   | .sub=>K (.f (.int k (k.wrap (a - b))))
   | .mul=>K (.f (.int k (k.wrap (a*b))))
   |_=>False) else False
  |_,_=>False)
 |_=>False
def Jb(P:Program)(D:Shp S)(e:Operand->SV S)(ob:Nat->Option (AO S))(lkc:Nat->Nat->SV S)(o:Op)(K:List Nat->SV S->Prop):Prop:=
 match o with
 | .move x=>K [] (e x)
 | .assign x=>K [] (e x)
 | .pick c a b=>tst (e c) (K [] (e a)) (K [] (e b))
 | .load t x=>(match e x with
  | .ref o off=>(match ob o with
   |some (.cells _ l)=>optK (subS P t (resL (lkc o) 0 l) off) fun s=>K [o] s
   |some (.arr _ T N l)=>bif Nat.beq off 0 && aggQ P t && hasT P t && Nat.beq (szQ P t) (N*D.size T) then K [o] (.arr T N l) else False
   |_=>False)
  | .eref T o i off=>(match ob o with
   |some (.vec _ T' l)=>Vw T' T l fun l=> ∀y,l[i]? =some y->optK (subS P t ((D.shape T y).map SV.f) off) fun s=>K [o] s
   |some (.vech _ T' l k f q)=>Vw T' T l fun l=>i=k/\ ∀y,l[i]? =some y->optK (subS P t (((D.shape T y).map SV.f).set f q) off) fun s=>K [o] s
   |_=>False)
  | .aref T N o i off=>(match ob o with
   |some (.arr _ T' N' l)=>bif Nat.beq N N' then Vw T' T l fun l=> ∀y,l[i]? =some y->optK (subS P t ((D.shape T y).map SV.f) off) fun s=>K [o] s else False
   |_=>False)
  | .fptr l off=>optK (subS P t (l.map SV.f) off) fun s=>K [] s
  | .fap T N l=>bif aggQ P t && hasT P t && Nat.beq (szQ P t) (N*D.size T) then K [] (.arr T N l) else False
  |_=>False)
 | .fieldAddr s x i=>(match P.underlying s with
  |some (.struct fs)=>(match fs[i]? with
   |some fld=>bif hasT P fld.type && Nat.blt 0 (szQ P fld.type) then (match e x with
    | .ref o off=>K [] (.ref o (off+fld.offset))
    | .eref T o i off=>K [] (.eref T o i (off+fld.offset))
    | .aref T N o i off=>K [] (.aref T N o i (off+fld.offset))
    | .fptr l off=>K [] (.fptr l (off+fld.offset))
    |_=>False) else False
   |none=>False)
  |_=>False)
 | .nilCheck x=>(match e x with
  | .ref o off=>K [] (.ref o off)
  | .eref T o i off=>K [] (.eref T o i off)
  | .aref T N o i off=>K [] (.aref T N o i off)
  | .fptr l off=>K [] (.fptr l off)
  | .fap T N l=>K [] (.fap T N l)
  | .fn g a b=>K [] (.fn g a b)
  |_=>False)
 | .indexAddr t x j=>(match e j with
  | .f (.int _ i)=>(match P.underlying t with
   |some (.slice el)=>bif hasT P el then (match lstS ob (e x) with
    |some ⟨T,l⟩=>bif Nat.beq (szQ P el) (D.size T) then (0<=i/\i<((l.length:Nat):Int))/\ ∀y,l[i.toNat]? =some y->K [] (.fptr (D.shape T y) 0) else False
    |none=>(match e x with
     | .hnd o=>(match ob o with
      |some (.vec _ T l)=>bif Nat.beq (szQ P el) (D.size T) then (0<=i/\i<((l.length:Nat):Int))/\K [] (.eref T o i.toNat 0) else False
      |some (.vech _ T l _ _ _)=>bif Nat.beq (szQ P el) (D.size T) then (0<=i/\i<((l.length:Nat):Int))/\K [] (.eref T o i.toNat 0) else False
      |_=>False)
     |_=>False)) else False
   |some (.array n el)=>bif hasT P el then (match e x with
    | .ref o off=>(match ob o with
     |some (.arr _ T N _)=>bif Nat.beq off 0 && Nat.beq (szQ P el) (D.size T) && Nat.beq n N then (0<=i/\i<(n:Int))/\K [] (.aref T N o i.toNat 0) else False
     |some (.cells _ _)=>bif v4c j then (bif Nat.blt i.toNat n && decide (0<=i) then K [] (.ref o (off+i.toNat*szQ P el)) else False) else
       (0<=i/\i<(n:Int))/\w7x n fun m=>i=(m:Int)->K [] (.ref o (off+m*szQ P el))
     |_=>False)
    | .fap T N l=>bif Nat.beq (szQ P el) (D.size T) && Nat.beq n N then (0<=i/\i<(n:Int))/\ ∀y,l[i.toNat]? =some y->K [] (.fptr (D.shape T y) 0) else False
    | .fptr l off=>bif Nat.blt i.toNat n && decide (0<=i) then K [] (.fptr l (off+i.toNat*szQ P el)) else False
    |_=>False) else False
   |_=>False)
  |_=>False)
 | .field s x i=>(match P.underlying s,e x with
  |some (.struct fs),.agg l=>(match fs[i]? with
   |some fld=>optK (subS P fld.type l fld.offset) fun s=>K [] s
   |none=>False)
  |_,_=>False)
 | .index t x j=>(match e j with
  | .f (.int .i64 i)=>(match P.underlying t,e x with
   |some (.array n el),.arr T N l=>bif hasT P el && !aggQ P el && Nat.beq (szQ P el) (D.size T) && Nat.beq n N then (0<=i/\i<(n:Int))/\ ∀y,l[i.toNat]? =some y->optK (subS P el ((D.shape T y).map SV.f) 0) fun s=>K [] s else False
   |some .string,.f (.str s)=>(0<=i/\i<((s.size:Nat):Int))/\ ∀b,s[i.toNat]? =some b->K [] (.f (.int .u8 ((b.toNat:Nat):Int)))
   |_,_=>False)
  |_=>False)
 | .extract x i=>(match e x with
  | .tup l=>optK l[i]? fun s=>K [] s
  |_=>False)
 | .makeFunc (.func g) a b=>K [] (.fn g (a.toList.map e) (b.toList.map e))
 | .binOp op t x y _=>(match y with
  | .const .nilIface=>(match e x,P.underlying t with
   | .f (.ifc b),some (.interface _)=>(match op with
    | .eql=>K [] (.f (.bool b))
    | .neq=>K [] (.f (.bool (!b)))
    |_=>False)
   |_,_=>False)
  |y=>binS P op t (e x) (e y) (K []))
 | .unOp .not _ x=>(match e x with
  | .lit b=>K [] (.lit (!b))
  | .f (.bool b)=>K [] (.pb (b=true) inferInstance true)
  | .pb p d b=>K [] (.pb p d (!b))
  |_=>False)
 | .unOp .neg _ x=>(match e x with
  | .f (.int k a)=>j8s k (0 - a) (K [])
  |_=>False)
 | .convert s d x=>(match e x,P.underlying s,P.underlying d with
  | .f (.int _ a),some (.int _),some (.int k')=>j8s k' a (K [])
  | .f (.str a),some .string,some .string=>K [] (.f (.str a))
  | .f (.int _ a),some (.int _),some .string=>K [] (.f (.str (Utf8.encode a)))
  | .hnd o,some (.slice el),some .string=>(match P.underlying el,D.unb,ob o with
   |some (.int .u8),some ⟨T,g⟩,some (.vec _ T' l)=>Vw T' T l fun l=>K [o] (.f (.str (g l)))
   |_,_,_=>False)
  |_,_,_=>False)
 | .build t parts=>(match P.underlying t,(P.info? t).bind (·.zero) with
  |some (.struct fs),some z=>bif z.cells.toList.all isZ && fs.toList.all (fun f=>hasT P f.type) then
    optK (w7w (fun i=>(fs[i]?).map fun f=>(f.offset,szQ P f.type)) (z.cells.toList.map fun v=>SV.f (j5b v)) (parts.toList.map fun q=>(q.1,e q.2))) fun l=>K [] (.agg l) else False
  |some (.array _ el),some z=>bif z.cells.toList.all isZ && hasT P el then
    optK (w7w (fun i=>some (i*szQ P el,szQ P el)) (z.cells.toList.map fun v=>SV.f (j5b v)) (parts.toList.map fun q=>(q.1,e q.2))) fun l=>K [] (.agg l) else False
  |_,_=>False)
 | .slice t x lo hi none=>(match P.underlying t with
  |some .string=>(match e x with
   | .f (.str s)=>(match (match lo with|none=>some (0:Int)|some o=>match e o with| .f (.int .i64 i)=>some i|_=>none),(match hi with|none=>some ((s.size:Nat):Int)|some o=>match e o with| .f (.int .i64 i)=>some i|_=>none) with
    |some l,some h=>(0<=l/\l<=h/\h<=((s.size:Nat):Int))/\K [] (.f (.str (s.extract l.toNat h.toNat)))
    |_,_=>False)
   |_=>False)
  |some (.slice el)=>(match lstS ob (e x) with
   |some ⟨T,li⟩=>bif hasT P el && Nat.beq (szQ P el) (D.size T) then (match (match lo with|none=>some (0:Int)|some o=>match e o with| .f (.int .i64 i)=>some i|_=>none),(match hi with|none=>some ((li.length:Nat):Int)|some o=>match e o with| .f (.int .i64 i)=>some i|_=>none) with
    |some l,some h=>(0<=l/\l<=h/\h<=((li.length:Nat):Int))/\K [] (.f (.sl T ((li.take h.toNat).drop l.toNat)))
    |_,_=>False) else False
   |none=>(match e x with
    | .hnd o=>(match ob o with
     |some (.vec _ T li)=>bif hasT P el && Nat.beq (szQ P el) (D.size T) then (match (match lo with|none=>some (0:Int)|some o=>match e o with| .f (.int .i64 i)=>some i|_=>none),(match hi with|none=>some ((li.length:Nat):Int)|some o=>match e o with| .f (.int .i64 i)=>some i|_=>none) with
      |some l,some h=>(0<=l/\l<=h/\h<=((li.length:Nat):Int))/\K [] (.cut o (D.size T) l h)
      |_,_=>False) else False
     |_=>False)
    |_=>False))
  |_=>False)
 | .call ⟨.builtin .len,args,ts⟩=>(match args.toList,ts.toList with
  |[x],[t]=>(match P.underlying t with
   |some (.slice _)=>lenS ob (e x) (K [])
   |some .string=>(match e x with
    | .f (.str s)=>K [] (.f (.int .i64 ((s.size:Nat):Int)))
    |_=>False)
   |_=>False)
  |_,_=>False)
 | .call ⟨.builtin .min,args,_⟩=>(match args.toList with
  |[x,y]=>(match e x,e y with
   | .f (.int k a),.f (.int k' b)=>bif k==k' then K [] (.f (.int k (min a b))) else False
   | .f (.str a),.f (.str b)=>Cnd (blt b a) (K [] (.f (.str b))) (K [] (.f (.str a)))
   |_,_=>False)
  |[x,y,z]=>(match e x,e y,e z with
   | .f (.int k a),.f (.int k' b),.f (.int k'' c)=>bif k==k' && k==k'' then K [] (.f (.int k (min (min a b) c))) else False
   |_,_,_=>False)
  |_=>False)
 | .call ⟨.builtin .max,args,_⟩=>(match args.toList with
  |[x,y]=>(match e x,e y with
   | .f (.int k a),.f (.int k' b)=>bif k==k' then K [] (.f (.int k (max a b))) else False
   | .f (.str a),.f (.str b)=>Cnd (blt a b) (K [] (.f (.str b))) (K [] (.f (.str a)))
   |_,_=>False)
  |_=>False)
 | .lookup t m x ok=>(match D.mcode t,P.underlying t,e m with
  |some (Kc,V),some (.map _ et),.hnd o=>(match ob o,keyS (e x) with
   |some (.map K' V' F),some ks=>optK (toFs ob ks) fun q=>bif q.2.isEmpty then optK (D.bld Kc q.1) fun k=>q9e K' V' F Kc V fun F=>
     optK (subS P et ((D.shape V ((F k).getD (D.zero V))).map SV.f) 0) fun s=>(match ok with
      |true=>K [o] (.tup [s,.f (.bool (F k).isSome)])
      |false=>K [o] s) else False
   |_,_=>False)
  |_,_,_=>False)
 | .entry x=>(match e x with
  | .ref o 0=>(match ob o with
   |some (.iter Kc V _ _ (some (k,y)))=>K [o] (.tup [svOf (D.shape Kc k),svOf (D.shape V y)])
   |_=>False)
  |_=>False)
 |_=>False
def frzs(ob:Nat->Option (AO S)):List Nat->Option (List (Nat×AO S))
 |[]=>some []
 |o::l=>bif hasN l o then none else match ob o,frzs ob l with
  |some (.vec _ T x),some r=>some ((o,.frz T x)::r)
  |_,_=>none
def noLk:List (SV S)->Bool
 |[]=>true
 | .lk::_=>false
 |_::l=>noLk l
def w33(D:Shp S)(ob:Nat->Option (AO S))(T:S.C):List (SV S)->Option (List (S.car T)×List Nat)
 |[]=>some ([],[])
 |s::l=>match z1e s with
  |some cs=>match toFs ob cs with
   |some (xs,a)=>match D.bld T xs,w33 D ob T l with
    |some y,some (ys,b)=>some (y::ys,a++b)
    |_,_=>none
   |none=>none
  |none=>none
def j6i:Nat->List (Nat×Operand)->Bool
 |_,[]=>true
 |i,(j,_)::l=>Nat.beq i j && j6i (i+1) l
def intQ:SV S->Option Int
 | .f (.int .i64 i)=>some i
 |_=>none
def ownQ(el:TypeId)(T:S.C)(ob:Nat->Option (AO S)):SV S->Option (List Nat×List (S.car T))
 | .f .nils=>some ([],[])
 | .hnd o=>match ob o with
  |some (.vec e T' l)=>bif Nat.beq e el then (match S.dec T' T with|isTrue h=>some ([o],h▸l)|isFalse _=>none) else none
  |_=>none
 |_=>none
def srcQ(el:TypeId)(T:S.C)(ob:Nat->Option (AO S)):SV S->Option (List Nat×List (S.car T))
 | .f .nils=>some ([],[])
 | .f (.sl T' l)=>match S.dec T' T with|isTrue h=>some ([],h▸l)|isFalse _=>none
 | .hnd o=>match ob o with
  |some (.vec e T' l)=>bif Nat.beq e el then (match S.dec T' T with|isTrue h=>some ([o],h▸l)|isFalse _=>none) else none
  |some (.frz T' l)=>match S.dec T' T with|isTrue h=>some ([],h▸l)|isFalse _=>none
  |_=>none
 |_=>none
def cutQ(D:Shp S)(el:TypeId)(T:S.C)(ob:Nat->Option (AO S)):SV S->SV S->Option (Nat×List (S.car T)×Int×Int×Int×Int)
 | .cut o s a b,.cut o' s' c d=>bif Nat.beq o o' && Nat.beq s (D.size T) && Nat.beq s' (D.size T) then (match ob o with
  |some (.vec e T' l)=>bif Nat.beq e el then (match S.dec T' T with|isTrue h=>some (o,h▸l,a,b,c,d)|isFalse _=>none) else none
  |_=>none) else none
 |_,_=>none
def bldL(D:Shp S)(T:S.C):List (FV S)->Option (List (S.car T))
 |[]=>some []
 |x::l=>match D.bld T [x],bldL D T l with
  |some y,some ys=>some (y::ys)
  |_,_=>none
def v4d(l:List (SV S)):Option (List (FV S)):=match toFs (fun _=>none) l with
 |some (xs,[])=>some xs
 |_=>none
def U1(P:Program)(D:Shp S)(e:Operand->SV S)(ob:Nat->Option (AO S))(nx:Nat)(o:Op)(K:List Nat->List (Nat×AO S)->Option (SV S)->Prop):Prop:=
 match o with
 | .alloc t=>(match D.acode t with
  |some (T,N)=>K [] [(nx,.arr t T N (List.replicate N (D.zero T)))] (some (.ref nx 0))
  |none=>(match (P.info? t).bind (·.zero) with
   |some z=>bif z.cells.toList.all isZ then K [] [(nx,.cells t (z.cells.toList.map fun v=>SV.f (j5b v)))] (some (.ref nx 0)) else False
   |none=>False))
 | .box t x=>(match e x with
  | .arr T N l=>K [] [(nx,.arr t T N l)] (some (.ref nx 0))
  |s=>optK (z1e s) fun l=>K [] [(nx,.cells t l)] (some (.ref nx 0)))
 | .store t a x=>(match e a with
  | .ref o off=>(match ob o with
   |some (.cells ty l)=>optK (z1e (e x)) fun cs=>bif hasT P t && Nat.beq (szQ P t) cs.length && Nat.ble (off+cs.length) l.length && noLk ((l.drop off).take cs.length) then
     K [o] [(o,.cells ty (l.take off++cs++l.drop (off+cs.length)))] none else False
   |some (.arr ty T N _)=>(match e x with
    | .arr T' N' l'=>bif Nat.beq off 0 && Nat.beq N N' && hasT P t && Nat.beq (szQ P t) (N*D.size T) then Vw T' T l' fun l'=>K [o] [(o,.arr ty T N l')] none else False
    |_=>False)
   |_=>False)
  | .eref T o i off=>(match ob o with
   |some (.vec ety T' l)=>Vw T' T l fun l=>optK (z1e (e x)) fun cs=>optK (toFs ob cs) fun q=>optK (frzs ob q.2) fun fz=>bif hasT P t && Nat.beq (szQ P t) cs.length && Nat.ble (off+cs.length) (D.size T) && !hasN q.2 o then
     ∀y,l[i]? =some y->optK (D.bld T ((D.shape T y).take off++q.1++(D.shape T y).drop (off+cs.length))) fun y'=>K (o::q.2) ((o,.vec ety T (l.set i y'))::fz) none else False
   |some (.vech ety T' l kh fh _)=>Vw T' T l fun l=>optK (z1e (e x)) fun cs=>optK (toFs ob cs) fun q=>optK (frzs ob q.2) fun fz=>bif hasT P t && Nat.beq (szQ P t) cs.length && Nat.beq cs.length 1 && Nat.beq off fh && Nat.blt off (D.size T) && !hasN q.2 o then
     i=kh/\ ∀y,l[i]? =some y->optK (D.bld T ((D.shape T y).take off++q.1++(D.shape T y).drop (off+cs.length))) fun y'=>K (o::q.2) ((o,.vec ety T (l.set i y'))::fz) none else False
   |_=>False)
  | .aref T N o i off=>(match ob o with
   |some (.arr ty T' N' l)=>bif Nat.beq N N' then Vw T' T l fun l=>optK (z1e (e x)) fun cs=>optK (toFs ob cs) fun q=>bif q.2.isEmpty && hasT P t && Nat.beq (szQ P t) cs.length && Nat.ble (off+cs.length) (D.size T) then
     ∀y,l[i]? =some y->optK (D.bld T ((D.shape T y).take off++q.1++(D.shape T y).drop (off+cs.length))) fun y'=>K [o] [(o,.arr ty T N' (l.set i y'))] none else False else False
   |_=>False)
  |_=>False)
 | .makeMap t none=>(match D.mcode t with
  |some (Kc,V)=>K [] [(nx,.map Kc V fun _=>none)] (some (.hnd nx))
  |none=>False)
 | .convert s d x=>(match e x,P.underlying s,P.underlying d with
  | .f (.str a),some .string,some .string=>K [] [] (some (.f (.str a)))
  | .f (.str a),some .string,some (.slice el)=>(match P.underlying el,D.bts with
   |some (.int .u8),some ⟨T,g⟩=>Sml a.size/\K [] [] (some (.f (.sl T (g a))))
   |_,_=>False)
  |_,_,_=>False)
 | .mapUpdate t m x v=>(match D.mcode t,e m,keyS (e x),keyS (e v) with
  |some (Kc,V),.hnd o,some ks,some vs=>(match ob o with
   |some (.map K' V' F)=>optK (toFs ob ks) fun q=>optK (toFs ob vs) fun q'=>optK (frzs ob q'.2) fun fz=>bif q.2.isEmpty && !hasN q'.2 o then optK (D.bld Kc q.1) fun k=>optK (D.bld V q'.1) fun y=>q9e K' V' F Kc V fun F=>
     K (o::q'.2) ((o,.map Kc V (@put _ _ (D.kdec Kc) F k y))::fz) none else False
   |_=>False)
  |_,_,_,_=>False)
 | .insert t m x v=>(match D.mcode t,e m,keyS (e x),keyS (e v) with
  |some (Kc,V),.hnd o,some ks,some vs=>(match ob o with
   |some (.map K' V' F)=>optK (toFs ob ks) fun q=>optK (toFs ob vs) fun q'=>optK (frzs ob q'.2) fun fz=>bif q.2.isEmpty && !hasN q'.2 o then optK (D.bld Kc q.1) fun k=>optK (D.bld V q'.1) fun y=>q9e K' V' F Kc V fun F=>
     K (o::q'.2) ((o,.map Kc V (@put _ _ (D.kdec Kc) F k y))::fz) none else False
   |_=>False)
  |_,_,_,_=>False)
 | .call ⟨.builtin .delete,args,ts⟩=>(match args.toList,ts.toList with
  |[m,x],[t,_]=>(match D.mcode t,e m,keyS (e x) with
   |some (Kc,V),.hnd o,some ks=>(match ob o with
    |some (.map K' V' F)=>optK (toFs ob ks) fun q=>bif q.2.isEmpty then optK (D.bld Kc q.1) fun k=>q9e K' V' F Kc V fun F=>
      K [o] [(o,.map Kc V (@dlt _ _ (D.kdec Kc) F k))] (some (.tup [])) else False
    |_=>False)
   |_,_,_=>False)
  |_,_=>False)
 | .buildSlice t len parts=>(match P.underlying t with
  |some (.slice el)=>(match D.code el with
   |some T=>bif hasT P el && Nat.beq (szQ P el) (D.size T) && j6i 0 parts.toList && Nat.beq parts.size len && Nat.ble (len*szQ P el) 16777216 && ((P.info? el).bind (·.zero)).isSome then
     optK (w33 D ob T (parts.toList.map fun q=>e q.2)) fun q=>optK (frzs ob q.2) fun fz=>K q.2 ((nx,.vec el T q.1)::fz) (some (.hnd nx)) else False
   |none=>False)
  |_=>False)
 | .makeSlice t x y=>(match P.underlying t with
  |some (.slice el)=>(match D.code el,intQ (e x),intQ (e y) with
   |some T,some a,some b=>(match P.info? el with
    |some i=>bif hasT P el && Nat.beq i.size (D.size T) && i.zero.isSome && Nat.ble i.bytes 32768 then (0<=a/\a<=b/\Sml b.toNat)/\K [] [(nx,.vec el T (List.replicate a.toNat (D.zero T)))] (some (.hnd nx)) else False
    |none=>False)
   |_,_,_=>False)
  |_=>False)
 | .call ⟨.builtin .append,args,ts⟩=>(match args.toList,ts.toList with
  |[x,y],[t,t']=>bif Nat.beq t t' then (match P.underlying t with
   |some (.slice el)=>(match D.code el,P.info? el with
    |some T,some i=>bif hasT P el && Nat.beq i.size (D.size T) && i.zero.isSome && Nat.ble i.bytes 32768 then
      (match cutQ D el T ob (e x) (e y) with
      |some (o,l,a,b,c,d)=>(a=0/\0<=b/\b<=c/\c<=d/\d<=((l.length:Nat):Int))/\Sml (l.take b.toNat++(l.take d.toNat).drop c.toNat).length/\K [o] [(nx,.vec el T (l.take b.toNat++(l.take d.toNat).drop c.toNat))] (some (.hnd nx))
      |none=>match ownQ el T ob (e x),srcQ el T ob (e y) with
      |some (a,l),some (b,l')=>bif (match a,b with|[o],[o']=> !Nat.beq o o'|_,_=>true) then
        Sml (l++l').length/\K (a++b) ((nx,.vec el T (l++l'))::(match b with|[o']=>[(o',.vec el T l')]|_=>[])) (some (.hnd nx)) else False
      |_,_=>False) else False
    |_,_=>False)
   |_=>False) else False
  |_,_=>False)
 | .slice t x none (some r) none=>(match P.underlying t,e x,intQ (e r) with
  |some (.slice el),.hnd o,some i=>(match ob o with
   |some (.vec ety T l)=>bif hasT P el && Nat.beq (szQ P el) (D.size T) && Nat.beq ety el then (0<=i/\i<=((l.length:Nat):Int))/\K [o] [(nx,.vec ety T (l.take i.toNat))] (some (.hnd nx)) else False
   |_=>False)
  |_,_,_=>False)
 | .slice t x none none none=>(match P.underlying t,e x with
  |some (.array N el),.ref o 0=>(match ob o,D.code el with
   |some (.cells _ l),some T=>bif Nat.beq (D.size T) 1 && Nat.beq (szQ P el) 1 && hasT P el && Nat.beq l.length N && Nat.ble N 140737488355328 then
     optK (v4d l) fun xs=>optK (bldL D T xs) fun ys=>K [o] [] (some (.f (.sl T ys))) else False
   |_,_=>False)
  |_,_=>False)
 | .slice t x (some lo) hi none=>(match P.underlying t,e x with
  |some (.slice el),.hnd o=>(match ob o with
   |some (.vec _ T l)=>bif hasT P el && Nat.beq (szQ P el) (D.size T) then
     (match intQ (e lo),(match hi with|none=>some ((l.length:Nat):Int)|some h=>intQ (e h)) with
     |some a,some b=>(0<=a/\a<=b/\b<=((l.length:Nat):Int))/\K [o] [(o,.frz T l)] (some (.f (.sl T ((l.take b.toNat).drop a.toNat))))
     |_,_=>False) else False
   |_=>False)
  |_,_=>False)
 | .range t x=>(match D.mcode t,e x with
  |some (Kc,V),.hnd o=>(match ob o with
   |some (.map K' V' F)=>q9e K' V' F Kc V fun F=> ∀ks:List (S.car Kc),Keys F ks->K [o] [(nx,.iter Kc V F [] none)] (some (.ref nx 0))
   |_=>False)
  |none,.f (.str s)=>(match P.underlying t with
   |some .string=>K [] [(nx,.siter s 0)] (some (.ref nx 0))
   |_=>False)
  |_,_=>False)
 | .next x false=>(match e x with
  | .ref o 0=>(match ob o with
   |some (.iter Kc V F done _)=>(v8d F done->K [o] [(o,.iter Kc V F done none)] (some (.tup [.lit false])))/\
     ∀k y,F k=some y->y0o k done->K [o] [(o,.iter Kc V F (k::done) (some (k,y)))] (some (.tup [.lit true,svOf (D.shape Kc k),svOf (D.shape V y)]))
   |_=>False)
  |_=>False)
 | .next x true=>(match e x with
  | .ref o 0=>(match ob o with
   |some (.siter s pos)=>Cnd (pos<s.size) (K [o] [(o,.siter s (pos+(Utf8.decode s pos).2))] (some (.tup [.lit true,.f (.int .i64 ((pos:Nat):Int)),.f (.int .i32 (((Utf8.decode s pos).1:Nat):Int))])))
     (K [o] [(o,.siter s pos)] (some (.tup [.lit false])))
   |_=>False)
  |_=>False)
 |_=>False
end Go.Fx
end
noncomputable section
set_option maxRecDepth 100000
namespace Go.Fx
open Go Go.RowKit Go.Fl Go.Fl.Lk
variable {S:Sig}
inductive RepF(D:Shp S)(σ:Hv):Value->FV S->Prop
 |bool (b:Bool):RepF D σ (.bool b) (.bool b)
 |int (k:IntKind) (n:Int):RepF D σ (.int k n) (.int k n)
 |str (s:ByteArray):RepF D σ (.string s) (.str s)
 |nils:RepF D σ (.slice none 0 0) .nils
 |nilp:RepF D σ (.pointer none) .nilp
 |nilm:RepF D σ (.map none) .nilm
 |nilf:RepF D σ .nilFunc .nilf
 |ifcN:RepF D σ .nilIface (.ifc true)
 |ifcS (t:TypeId) (p:Value):RepF D σ (.iface t p) (.ifc false)
 |sl (T:S.C) (l:List (S.car T)) (a:Option Addr) (cap:Nat) (c:Nat->Nat->Value) (h1:l.length<=cap) (h2:l.length<=140737488355328)
   (h3: ∀(i:Nat) x,l[i]? =some x-> ∃ad:Addr,a=some ad/\ ∀j,j<D.size T->σ.cell (ad.add (i*D.size T+j))=some (c i j))
   (h4: ∀(i:Nat) x (j:Nat) s,l[i]? =some x->(D.shape T x)[j]? =some s->RepF D σ (c i j) s):RepF D σ (.slice a l.length cap) (.sl T l)
 |any (v:Value) (h1:v.oneCell'=true) (h2:v.cells= #[v]):RepF D σ v .any
theorem RepF.mono{D:Shp S}{σ τ:Hv}{v:Value}{x:FV S}(h:RepF D σ v x)(hs:Sub σ τ):RepF D τ v x:=by
 induction h with
 |sl T l a cap c h1 h2 h3 _ ih=>
  refine .sl T l a cap c h1 h2 (fun i x hx=> ?_) (fun i x j s hx hj=>ih i x j s hx hj)
  obtain⟨ad,ha,hc⟩:=h3 i x hx
  exact⟨ad,ha,fun j hj=>hs.cell (hc j hj)⟩
 |any v h1 h2=>exact .any v h1 h2
 |_=>constructor
theorem RepF.one{D:Shp S}{σ:Hv}{v:Value}{x:FV S}(h:RepF D σ v x):v.oneCell'=true:=by cases h<;>first|rfl|assumption
theorem RepF.cells{D:Shp S}{σ:Hv}{v:Value}{x:FV S}(h:RepF D σ v x):v.cells= #[v]:=by cases h<;>first|rfl|assumption
def RowF(D:Shp S)(σ:Hv)(cs:List Value)(ss:List (FV S)):Prop:=cs.length=ss.length/\ ∀(j:Nat) v s,cs[j]? =some v->ss[j]? =some s->RepF D σ v s
theorem RowF.mono{D:Shp S}{σ τ:Hv}{cs:List Value}{ss:List (FV S)}(h:RowF D σ cs ss)(hs:Sub σ τ):RowF D τ cs ss:=⟨h.1,fun j v s hj hk=>(h.2 j v s hj hk).mono hs⟩
structure Shp.Ok(D:Shp S):Prop where
 len: ∀T x,(D.shape T x).length=D.size T
 pos: ∀T,0<D.size T
 bld: ∀T ss x σ cs,D.bld T ss=some x->RowF D σ cs ss->RowF D σ cs (D.shape T x)
abbrev ElF(D:Shp S)(T:S.C):Hv->List Value->S.car T->Prop:=fun σ cs x=>RowF D σ cs (D.shape T x)
theorem ElF.mono{D:Shp S}{T:S.C}{σ τ:Hv}{cs:List Value}{x:S.car T}(hs:Sub σ τ)(h:ElF D T σ cs x):ElF D T τ cs x:=RowF.mono h hs
theorem RepF.toRSl{D:Shp S}(hD:D.Ok){σ:Hv}{v:Value}{T:S.C}{l:List (S.car T)}(h:RepF D σ v (.sl T l)):RSl (D.size T) (ElF D T) σ v l:=by
 cases h with
 |sl _ _ a cap c h1 h2 h3 h4=>
  refine⟨a,cap,rfl,h1,h2,fun i x hx=> ?_⟩
  obtain⟨ad,ha,hc⟩:=h3 i x hx
  refine⟨ad,(List.range (D.size T)).map (c i),ha,by simp,?_,?_⟩
  ·intro j v hj
   rw[List.getElem?_map] at hj
   rcases Nat.lt_or_ge j (D.size T) with hlt|hge
   ·rw[List.getElem?_range hlt] at hj
    cases hj
    rw[q24];exact hc j hlt
   ·rw[List.getElem?_eq_none (by simpa using hge)] at hj;cases hj
  ·refine⟨by simp[hD.len],fun j v s hj hs=> ?_⟩
   have hlt:j<D.size T:=by rw[←hD.len T x];exact Qa hs
   rw[List.getElem?_map,List.getElem?_range hlt] at hj
   cases hj
   exact h4 i x j s hx hs
theorem RepF.ofRSl{D:Shp S}(hD:D.Ok){σ:Hv}{v:Value}{T:S.C}{l:List (S.car T)}(h:RSl (D.size T) (ElF D T) σ v l):RepF D σ v (.sl T l):=by
 obtain⟨a,cap,rfl,h1,h2,h3⟩:=h
 have hc: ∃c:Nat->List Value,∀(i:Nat) x,l[i]? =some x-> ∃ad,a=some ad/\(c i).length=D.size T/\VRow σ (ad.add (i*D.size T)) (c i)/\RowF D σ (c i) (D.shape T x):=by
  refine⟨fun i=>if hi:i<l.length then Classical.choose (Classical.choose_spec (h3 i l[i] (List.getElem?_eq_getElem hi))) else [],fun i x hx=> ?_⟩
  have hi:=Qa hx
  have hxx:l[i]=x:=by rw[List.getElem?_eq_getElem hi] at hx;exact Option.some.inj hx
  simp only[dif_pos hi]
  have:=Classical.choose_spec (Classical.choose_spec (h3 i l[i] (List.getElem?_eq_getElem hi)))
  subst hxx
  exact⟨_,this⟩
 obtain⟨c,hc⟩:=hc
 refine .sl T l a cap (fun i j=>(c i).getD j undef) h1 h2 (fun i x hx=> ?_) (fun i x j s hx hj=> ?_)
 ·obtain⟨ad,ha,hl,hr,_⟩:=hc i x hx
  refine⟨ad,ha,fun j hj=> ?_⟩
  rw[←q24]
  refine hr j _ ?_
  rw[List.getD_eq_getElem?_getD,List.getElem?_eq_getElem (by omega)];rfl
 ·obtain⟨ad,ha,hl,hr,hR⟩:=hc i x hx
  have hlt:j<(c i).length:=by rw[hl,←hD.len T x];exact Qa hj
  refine hR.2 j _ s ?_ hj
  rw[List.getD_eq_getElem?_getD,List.getElem?_eq_getElem hlt];rfl
abbrev Nm:=Nat->Option Value
def Ext(ν ν':Nm):Prop:= ∀o v,ν o=some v->ν' o=some v
theorem Ext.refl(ν:Nm):Ext ν ν:=fun _ _ h=>h
theorem Ext.trans{a b c:Nm}(h:Ext a b)(k:Ext b c):Ext a c:=fun o v hv=>k o v (h o v hv)
inductive SRep(D:Shp S)(ν:Nm)(σ:Hv):Value->SV S->Prop
 |f {v:Value} {x:FV S} (h:RepF D σ v x):SRep D ν σ v (.f x)
 |lit (b:Bool):SRep D ν σ (.bool b) (.lit b)
 |pb (p:Prop) (d:Decidable p):SRep D ν σ (.bool (@decide p d)) (.pb p d false)
 |pbn (p:Prop) (d:Decidable p):SRep D ν σ (.bool (!@decide p d)) (.pb p d true)
 |agg (cs:List Value) (ss:List (SV S)) (hl:cs.length=ss.length) (h: ∀(j:Nat) v s,cs[j]? =some v->ss[j]? =some s->SRep D ν σ v s) (h1: ∀v∈cs,v.oneCell'=true):
   SRep D ν σ (.agg cs.toArray) (.agg ss)
 |tup (cs:List Value) (ss:List (SV S)) (hl:cs.length=ss.length) (h: ∀(j:Nat) v s,cs[j]? =some v->ss[j]? =some s->SRep D ν σ v s):SRep D ν σ (.tuple cs.toArray) (.tup ss)
 |arr (cs:List Value) (T:S.C) (N:Nat) (l:List (S.car T)) (hN:l.length=N) (hl:cs.length=l.length*D.size T) (h: ∀(i:Nat) x,l[i]? =some x->RowF D σ ((cs.drop (i*D.size T)).take (D.size T)) (D.shape T x)):
   SRep D ν σ (.agg cs.toArray) (.arr T N l)
 |ref (o off b:Nat) (h:ν o=some (.pointer (some ⟨b,0,none⟩))):SRep D ν σ (.pointer (some ⟨b,off,none⟩)) (.ref o off)
 |eref (T:S.C) (o i off b m cap:Nat) (h:ν o=some (.slice (some ⟨b,0,none⟩) m cap)) (hi:i<m):SRep D ν σ (.pointer (some ⟨b,i*D.size T+off,none⟩)) (.eref T o i off)
 |aref (T:S.C) (N o i off b:Nat) (h:ν o=some (.pointer (some ⟨b,0,none⟩))) (hi:i<N):SRep D ν σ (.pointer (some ⟨b,i*D.size T+off,none⟩)) (.aref T N o i off)
 |fptr (ad:Addr) (cs:List Value) (l:List (FV S)) (off:Nat) (h:VRow σ ad cs) (hr:RowF D σ cs l):SRep D ν σ (.pointer (some (ad.add off))) (.fptr l off)
 |fap (ad:Addr) (cs:List Value) (T:S.C) (N:Nat) (l:List (S.car T)) (hN:l.length=N) (h:VRow σ ad cs) (hl:cs.length=l.length*D.size T) (hr: ∀(i:Nat) x,l[i]? =some x->RowF D σ ((cs.drop (i*D.size T)).take (D.size T)) (D.shape T x)):
   SRep D ν σ (.pointer (some ad)) (.fap T N l)
 |hnd (o:Nat) (v:Value) (h:ν o=some v) (h1:v.oneCell'=true):SRep D ν σ v (.hnd o)
 |cut (o sz:Nat) (lo hi:Int) (a:Option Addr) (len cap:Nat) (h:ν o=some (.slice a len cap)) (h0:0<=lo/\lo<=hi/\hi<=(len:Int)) (hc:len<=cap):
   SRep D ν σ (.slice (if cap=lo.toNat then a else a.map (·.add (lo.toNat*sz))) (hi.toNat - lo.toNat) (cap - lo.toNat)) (.cut o sz lo hi)
 |fn (g:Nat) (a b:List Value) (first cap:List (SV S)) (hl:a.length=first.length) (h: ∀(j:Nat) v s,a[j]? =some v->first[j]? =some s->SRep D ν σ v s)
   (hl':b.length=cap.length) (h': ∀(j:Nat) v s,b[j]? =some v->cap[j]? =some s->SRep D ν σ v s):SRep D ν σ (.func (.func g) a.toArray b.toArray) (.fn g first cap)
 |und:SRep D ν σ undef .und
 |dead (v:Value):SRep D ν σ v .dead
theorem SRep.mono{D:Shp S}{ν ν':Nm}{σ τ:Hv}{v:Value}{s:SV S}(h:SRep D ν σ v s)(hn:Ext ν ν')(hs:Sub σ τ):SRep D ν' τ v s:=by
 induction h with
 |f h=>exact .f (h.mono hs)
 |lit b=>exact .lit b
 |pb p d=>exact .pb p d
 |pbn p d=>exact .pbn p d
 |agg cs ss hl _ h1 ih=>exact .agg cs ss hl ih h1
 |tup cs ss hl _ ih=>exact .tup cs ss hl ih
 |arr cs T N l hN hl h=>exact .arr cs T N l hN hl fun i x hx=>(h i x hx).mono hs
 |ref o off b h=>exact .ref o off b (hn _ _ h)
 |eref T o i off b m cap h hi=>exact .eref T o i off b m cap (hn _ _ h) hi
 |aref T N o i off b h hi=>exact .aref T N o i off b (hn _ _ h) hi
 |fptr ad cs l off h hr=>exact .fptr ad cs l off (h.mono hs) (hr.mono hs)
 |fap ad cs T N l hN h hl hr=>exact .fap ad cs T N l hN (h.mono hs) hl fun i x hx=>(hr i x hx).mono hs
 |hnd o v h h1=>exact .hnd o v (hn _ _ h) h1
 |cut o sz lo hi a len cap h h0 hc=>exact .cut o sz lo hi a len cap (hn _ _ h) h0 hc
 |fn g a b first cap hl _ hl' _ ih ih'=>exact .fn g a b first cap hl ih hl' ih'
 |und=>exact .und
 |dead v=>exact .dead v
theorem SRep.transfer{D:Shp S}{ν₁ ν₂ ν':Nm}{σ₁ σ:Hv}{v₁ v₂:Value}{s:SV S}(h:SRep D ν₁ σ₁ v₁ s)(k:SRep D ν₂ σ v₂ s)(hn: ∀o v,ν₁ o=some v->ν' o=ν₂ o):SRep D ν' σ v₂ s:=by
 induction h generalizing v₂ with
 |f h=>cases k with|f k=>exact .f k
 |lit b=>cases k;exact .lit b
 |pb p d=>cases k;exact .pb p d
 |pbn p d=>cases k;exact .pbn p d
 |agg cs ss hl _ h1 ih=>
  cases k with
  |agg cs' _ hl' k' h1'=>
   refine .agg cs' ss hl' (fun j v s hj hs=> ?_) h1'
   obtain⟨u,hu⟩:=getq (l:=cs) (k:=j) (by rw[hl];exact Qa hs)
   exact ih j u s hu hs (k' j v s hj hs)
 |tup cs ss hl _ ih=>
  cases k with
  |tup cs' _ hl' k'=>
   refine .tup cs' ss hl' (fun j v s hj hs=> ?_)
   obtain⟨u,hu⟩:=getq (l:=cs) (k:=j) (by rw[hl];exact Qa hs)
   exact ih j u s hu hs (k' j v s hj hs)
 |arr cs T N l hN hl h=>cases k with|arr cs' _ _ _ hN' hl' h'=>exact .arr cs' T N l hN' hl' h'
 |ref o off b h=>cases k with|ref _ _ b' h'=>exact .ref o off b' (by rw[hn _ _ h];exact h')
 |eref T o i off b m cap h hi=>cases k with|eref _ _ _ _ b' m' cap' h' hi'=>exact .eref T o i off b' m' cap' (by rw[hn _ _ h];exact h') hi'
 |aref T N o i off b h hi=>cases k with|aref _ _ _ _ _ b' h' hi'=>exact .aref T N o i off b' (by rw[hn _ _ h];exact h') hi'
 |fptr ad cs l off h hr=>cases k with|fptr ad' cs' _ _ h' hr'=>exact .fptr ad' cs' l off h' hr'
 |fap ad cs T N l hN h hl hr=>cases k with|fap ad' cs' _ _ _ hN' h' hl' hr'=>exact .fap ad' cs' T N l hN' h' hl' hr'
 |hnd o v h h1=>cases k with|hnd _ v' h' h1'=>exact .hnd o _ (by rw[hn _ _ h];exact h') h1'
 |cut o sz lo hi a len cap h h0 hc=>cases k with|cut _ _ _ _ a' len' cap' h' h0' hc'=>exact .cut o sz lo hi a' len' cap' (by rw[hn _ _ h];exact h') h0' hc'
 |fn g a b first cap hl _ hl' _ ih ih'=>
  cases k with
  |fn _ a' b' _ _ kl k1 kl' k2=>
   refine .fn g a' b' first cap kl (fun j v s hj hs=> ?_) kl' (fun j v s hj hs=> ?_)
   ·obtain⟨u,hu⟩:=getq (l:=a) (k:=j) (by rw[hl];exact Qa hs)
    exact ih j u s hu hs (k1 j v s hj hs)
   ·obtain⟨u,hu⟩:=getq (l:=b) (k:=j) (by rw[hl'];exact Qa hs)
    exact ih' j u s hu hs (k2 j v s hj hs)
 |und=>cases k;exact .und
 |dead v=>exact .dead _
def RowS(D:Shp S)(ν:Nm)(σ:Hv)(cs:List Value)(ss:List (SV S)):Prop:=
 cs.length=ss.length/\(∀(j:Nat) v s,cs[j]? =some v->ss[j]? =some s->SRep D ν σ v s)/\ ∀v∈cs,v.oneCell'=true
theorem RowS.mono{D:Shp S}{ν ν':Nm}{σ τ:Hv}{cs:List Value}{ss:List (SV S)}(h:RowS D ν σ cs ss)(hn:Ext ν ν')(hs:Sub σ τ):RowS D ν' τ cs ss:=
 ⟨h.1,fun j v s hj hk=>(h.2.1 j v s hj hk).mono hn hs,h.2.2⟩
theorem RowF.toS{D:Shp S}{ν:Nm}{σ:Hv}{cs:List Value}{ss:List (FV S)}(h:RowF D σ cs ss):RowS D ν σ cs (ss.map SV.f):=by
 refine⟨by simp[h.1],fun j v s hj hs=> ?_,fun v hv=> ?_⟩
 ·rw[List.getElem?_map] at hs
  rcases hq:ss[j]? with _|x
  ·rw[hq] at hs;cases hs
  ·rw[hq] at hs;cases hs
   exact .f (h.2 j v x hj hq)
 ·obtain⟨j,hj⟩:=List.mem_iff_getElem?.1 hv
  obtain⟨x,hx⟩:=getq (l:=ss) (k:=j) (by rw[←h.1];exact Qa hj)
  exact (h.2 j v x hj hx).one
def triv:HObj:=⟨none,fun _=>True,fun _ _ _ h=>h,fun _ _ _ h=>by cases h⟩
def Els(D:Shp S)(σ:Hv)(T:S.C)(xs:List Value)(l:List (S.car T)):Prop:=
 xs.length=l.length*D.size T/\ ∀(i:Nat) x,l[i]? =some x->RowF D σ ((xs.drop (i*D.size T)).take (D.size T)) (D.shape T x)
theorem Els.mono{D:Shp S}{σ τ:Hv}{T:S.C}{xs:List Value}{l:List (S.car T)}(h:Els D σ T xs l)(hs:Sub σ τ):Els D τ T xs l:=⟨h.1,fun i x hx=>(h.2 i x hx).mono hs⟩
def z9q(D:Shp S)(T:S.C)(i k f:Nat)(q:SV S)(x:S.car T):List (SV S):=if i=k then ((D.shape T x).map SV.f).set f q else (D.shape T x).map SV.f
def ElsH(D:Shp S)(ν:Nm)(σ:Hv)(T:S.C)(xs:List Value)(l:List (S.car T))(k f:Nat)(q:SV S):Prop:=
 xs.length=l.length*D.size T/\ ∀(i:Nat) x,l[i]? =some x->RowS D ν σ ((xs.drop (i*D.size T)).take (D.size T)) (z9q D T i k f q x)
theorem ElsH.mono{D:Shp S}{ν ν':Nm}{σ τ:Hv}{T:S.C}{xs:List Value}{l:List (S.car T)}{k f:Nat}{q:SV S}(h:ElsH D ν σ T xs l k f q)(hn:Ext ν ν')(hs:Sub σ τ):ElsH D ν' τ T xs l k f q:=⟨h.1,fun i x hx=>(h.2 i x hx).mono hn hs⟩
theorem ElsH.dead{D:Shp S}{ν:Nm}{σ:Hv}{T:S.C}{xs:List Value}{l:List (S.car T)}{k f:Nat}{q:SV S}(h:ElsH D ν σ T xs l k f q)(ν':Nm):ElsH D ν' σ T xs l k f .dead:=by
 refine⟨h.1,fun i x hx=> ?_⟩
 obtain⟨h1,h2,h3⟩:=h.2 i x hx
 refine⟨h1.trans (by unfold z9q;split<;>simp),fun j v s hv hs=> ?_,h3⟩
 have fr: ∀{y:FV S},SRep D ν σ v (.f y)->SRep D ν' σ v (.f y):=fun h=>by
  cases h with
  |f h=>exact .f h
 unfold z9q at hs
 split at hs
 ·rename_i hik
  have h2:=h2 j v
  unfold z9q at h2
  rw[if_pos hik] at h2
  by_cases hj:f=j
  ·subst hj
   have hs':=hs
   rw[List.getElem?_set_self (by have:=Qa hs;simpa using this)] at hs'
   cases hs';exact .dead v
  ·rw[List.getElem?_set_ne hj] at hs
   have hs2:=h2 s hv (by rw[List.getElem?_set_ne hj];exact hs)
   rw[List.getElem?_map] at hs
   obtain⟨y,_,rfl⟩:=Option.map_eq_some_iff.1 hs
   exact fr hs2
 ·rename_i hik
  have h2:=h2 j v
  unfold z9q at h2
  rw[if_neg hik] at h2
  have hs2:=h2 s hv hs
  rw[List.getElem?_map] at hs
  obtain⟨y,_,rfl⟩:=Option.map_eq_some_iff.1 hs
  exact fr hs2
def valF:FV S->Value
 | .bool b=> .bool b
 | .int k n=> .int k n
 | .str s=> .string s
 |_=>undef
def keyF:FV S->Bool
 | .bool _=>true
 | .int _ _=>true
 | .str _=>true
 |_=>false
def asV:List Value->Value
 |[u]=>u
 |cs=> .agg cs.toArray
def kenc(D:Shp S)(T:S.C)(x:S.car T):Value:=asV ((D.shape T x).map valF)
def ElV(D:Shp S)(σ:Hv)(T:S.C)(v:Value)(x:S.car T):Prop:= ∃cs,RowF D σ cs (D.shape T x)/\v=asV cs
theorem ElV.mono{D:Shp S}{σ τ:Hv}{T:S.C}{v:Value}{x:S.car T}(h:ElV D σ T v x)(hs:Sub σ τ):ElV D τ T v x:=by
 obtain⟨cs,h1,h2⟩:=h
 exact⟨cs,h1.mono hs,h2⟩
def sitr(r:Nat)(s:ByteArray)(pos:Nat):HObj where
 foot:=some r
 ok w:=w.heap[r]? =some (.stringIter s pos)
 stay w w' h hk:=(h r rfl).trans hk
 lt w k hk hf:=by cases hf;exact (Array.getElem?_eq_some_iff.1 hk).1
def ORep(D:Shp S)(ν:Nm)(σ:Hv)(lkc:Nat->Nat->SV S)(o:Nat):AO S->HObj->Prop
 | .cells ty l,h=> ∃b cs,ν o=some (.pointer (some ⟨b,0,none⟩))/\h=blk b ty cs/\RowS D ν σ cs (resL (lkc o) 0 l)
 | .vec e T l,h=> ∃v xs,ν o=some v/\h=vec v e (D.size T) l.length xs/\Els D σ T xs l/\l.length<=140737488355328
 | .frz T l,h=> ∃v,ν o=some v/\h=triv/\RepF D σ v (.sl T l)
 | .arr ty T N l,h=> ∃b cs,ν o=some (.pointer (some ⟨b,0,none⟩))/\h=blk b ty cs/\Els D σ T cs l/\l.length=N
 | .map K V F,h=> ∃b m,ν o=some (.map (some b))/\h=j1b (kenc D K) b m/\ ∀k,ORel (ElV D σ V) (m k) (F k)
 | .iter K V F done cur,h=> ∃r b es clock cv,ν o=some (.pointer (some ⟨r,0,none⟩))/\h=itrK (kenc D K) r b es clock done cv/\σ b=some (.map es clock)/\z5r (kenc D K) es.toList/\MBk es.toList clock/\
   (∀k,ORel (ElV D σ V) (lkK (kenc D K) es.toList k) (F k))/\(∀k,(D.shape K k).all keyF=true)/\(∀a b,kenc D K a=kenc D K b->a=b)/\ ∀k y,cur=some (k,y)-> ∃v,cv=some (k,v)/\ElV D σ V v y
 | .siter s pos,h=> ∃r,ν o=some (.pointer (some ⟨r,0,none⟩))/\h=sitr r s pos
 | .vech e T l k f q,h=> ∃v xs,ν o=some v/\h=vec v e (D.size T) l.length xs/\ElsH D ν σ T xs l k f q/\l.length<=140737488355328
structure Shp.OkP(P:Program)(D:Shp S):Prop where
 ok:D.Ok
 zero: ∀t T i z,D.code t=some T->P.info? t=some i->i.zero=some z-> ∀σ,RowF D σ z.cells.toList (D.shape T (D.zero T))
 arr: ∀t T N,D.acode t=some (T,N)-> ∃cs:List Value,(∀w,(zeroValue t).run P w= .ok (.agg cs.toArray) w)/\ ∀σ,Els D σ T cs (List.replicate N (D.zero T))
 flat: ∀T,D.flat T=true-> ∀x,(D.shape T x).all (fun s=>match s with| .sl _ _=>false|_=>true)=true
 bts: ∀T g,D.bts=some ⟨T,g⟩->D.size T=1/\ ∀s:ByteArray,(g s).length=s.size/\ ∀(i:Nat) x,(g s)[i]? =some x->D.shape T x=[.int .u8 ((s.data.toList.getD i 0).toNat:Int)]
 unb: ∀T g,D.unb=some ⟨T,g⟩->D.size T=1/\ ∀l:List (S.car T),∃ns:List Int,ns.length=l.length/\(∀(i:Nat) x,l[i]? =some x->D.shape T x=[.int .u8 (ns.getD i 0)])/\g l=strOfNums ns
 map: ∀t K V,D.mcode t=some (K,V)-> ∃kt et,P.underlying t=some (.map kt et)/\KeyOk P kt (kenc D K)/\(∀x,(D.shape K x).all keyF=true)/\hasT P et=true/\aggQ P et= !Nat.beq (D.size V) 1/\szQ P et=D.size V/\
  ∃z,(∀w,(zeroValue et).run P w= .ok z w)/\ ∀σ,ElV D σ V z (D.zero V)
end Go.Fx
end
noncomputable section
set_option maxRecDepth 100000
namespace Go.Fx
open Go Go.RowKit Go.Fl Go.Fl.Lk
variable {S:Sig}{P:Program}{D:Shp S}{ν:Nm}{σ:Hv}{n:Nat}{f:Fr}
theorem y0p{c:Bool}{A B:Prop}(h:bif c then A else B)(hB: ¬B):c=true/\A:=by
 cases c
 ·exact absurd h hB
 ·exact⟨rfl,h⟩
theorem Jc{c:Bool}{A:Prop}(h:bif c then A else False):c=true/\A:=y0p h id
theorem Qf{α:Type}{o:Option α}{k:α->Prop}(h:optK o k): ∃x,o=some x/\k x:=by
 cases o with
 |none=>exact h.elim
 |some x=>exact⟨x,rfl,h⟩
theorem Qu{a b:Bool}(h:(a && b)=true):a=true/\b=true:=by simpa using h
theorem j8v{t:TypeId}(h:hasT P t=true): ∃i d,P.info? t=some i/\P.underlying t=some d:=by
 unfold hasT at h
 obtain⟨h1,h2⟩:=Qu h
 obtain⟨i,hi⟩:=Option.isSome_iff_exists.1 h1
 obtain⟨d,hd⟩:=Option.isSome_iff_exists.1 h2
 exact⟨i,d,hi,hd⟩
theorem Vg{t:TypeId}(h:hasT P t=true)(w:World):(sizeOf t).run P w= .ok (szQ P t) w:=by
 obtain⟨i,d,hi,hd⟩:=j8v h
 simp[sizeOf,typeInfo,hi,szQ]
theorem q69{t:TypeId}(h:hasT P t=true)(w:World):(isAgg t).run P w= .ok (aggQ P t) w:=by
 obtain⟨i,d,hi,hd⟩:=j8v h
 unfold isAgg aggQ
 simp only[Sem.run_bind,run_underlying hd,Result.andThen_ok,hd]
 cases d<;>rfl
theorem v5a{cs:List Value}{off k j:Nat}{v:Value}(h:((cs.drop off).take k)[j]? =some v):j<k/\cs[off+j]? =some v:=by
 rw[List.getElem?_take] at h
 split at h
 ·rename_i hlt
  rw[List.getElem?_drop] at h
  exact⟨hlt,h⟩
 ·cases h
theorem v1v{l:List (SV S)}{off k j:Nat}{s:SV S}(h:((l.drop off).take k)[j]? =some s):j<k/\l[off+j]? =some s:=by
 rw[List.getElem?_take] at h
 split at h
 ·rename_i hlt
  rw[List.getElem?_drop] at h
  exact⟨hlt,h⟩
 ·cases h
theorem z88{t:TypeId}{cs:List Value}{l:List (SV S)}{off:Nat}{s:SV S}(hr:RowS D ν σ cs l)(h:subS P t l off=some s):
  ∃v,SRep D ν σ v s/\(∀w a,Row w a cs->(loadVar t (a.add off)).run P w= .ok v w)/\ ∀w,(part t cs.toArray off).run P w= .ok v w:=by
 unfold subS at h
 cases hT:hasT P t with
 |false=>rw[hT] at h;cases h
 |true=>
  rw[hT] at h
  simp only[cond_true] at h
  cases hA:aggQ P t with
  |true=>
   rw[hA] at h
   simp only[cond_true] at h
   cases hb:Nat.ble (off+szQ P t) l.length with
   |false=>rw[hb] at h;cases h
   |true=>
    rw[hb] at h;cases h
    have hle:off+szQ P t<=l.length:=Nat.le_of_ble_eq_true hb
    have hlen:((cs.drop off).take (szQ P t)).length=szQ P t:=by simp only[List.length_take,List.length_drop];have:=hr.1;omega
    refine⟨.agg ((cs.drop off).take (szQ P t)).toArray,.agg _ _ (by rw[hlen];simp only[List.length_take,List.length_drop];omega) (fun j v s hj hs=> ?_) (fun v hv=> ?_),fun w a hrow=> ?_,fun w=> ?_⟩
    ·exact hr.2.1 _ v s (v5a hj).2 (v1v hs).2
    ·exact hr.2.2 v (List.mem_of_mem_drop (List.mem_of_mem_take hv))
    ·have hload:=run_loadCells_list (P:=P) w (a.add off) ((cs.drop off).take (szQ P t)) (Row.part hrow rfl)
     rw[hlen] at hload
     simp[loadVar,q69 hT,hA,Vg hT,hload]
    ·simp[part,q69 hT,hA,Vg hT]
  |false=>
   rw[hA] at h
   simp only[cond_false] at h
   have hlt:=Qa h
   obtain⟨v,hv⟩:=getq (l:=cs) (k:=off) (by rw[hr.1];exact hlt)
   refine⟨v,hr.2.1 _ v s hv h,fun w a hrow=> ?_,fun w=> ?_⟩
   ·have hc:=hrow off v hv
    simp[loadVar,q69 hT,hA,load,Sem.run,hc]
   ·simp[part,q69 hT,hA,hv]
structure Kn(D:Shp S)(ν:Nm)(σ:Hv)(n:Nat)(f:Fr)(w:World)(e:Operand->SV S)(ob:Nat->Option (AO S))(lkc:Nat->Nat->SV S)(oh:Nat->HObj):Prop where
 e: ∀x,SRep D ν σ (ev n f x) (e x)
 o: ∀o a,ob o=some a->ORep D ν σ lkc o a (oh o)/\(oh o).ok w
def R1(P:Program)(D:Shp S)(ν:Nm)(σ:Hv)(ob:Nat->Option (AO S))(oh:Nat->HObj)(r:Operand->Value)(o:Op)(K:List Nat->SV S->Prop):Prop:=
 ∃rd s v,K rd s/\SRep D ν σ v s/\ ∀(w:World) (oo:Oper),oo.op=o->View σ w->(∀o∈rd,∀a,ob o=some a->(oh o).ok w)->(execOp r oo).run P w= .ok (.value v) w
variable {w:World}{e:Operand->SV S}{ob:Nat->Option (AO S)}{lkc:Nat->Nat->SV S}{oh:Nat->HObj}{K:List Nat->SV S->Prop}
theorem v4e{s:SV S}{A B:Prop}{v:Value}(hs:SRep D ν σ v s)(h:tst s A B): ∃b,v= .bool b/\((b=true/\A)∨(b=false/\B)):=by
 cases hs with
 |lit b=>
   cases b
   ·exact⟨_,rfl,.inr ⟨rfl,h⟩⟩
   ·exact⟨_,rfl,.inl ⟨rfl,h⟩⟩
 |f hf=>
  cases hf with
  |bool b=>
    cases b
    ·exact⟨_,rfl,.inr ⟨rfl,h.2 (by simp)⟩⟩
    ·exact⟨_,rfl,.inl ⟨rfl,h.1 rfl⟩⟩
  |_=>exact h.elim
 |pb p d=>
  by_cases hp:p
  ·exact⟨_,rfl,.inl ⟨by simp[hp],h.1 hp⟩⟩
  ·exact⟨_,rfl,.inr ⟨by simp[hp],h.2 hp⟩⟩
 |pbn p d=>
  by_cases hp:p
  ·exact⟨_,rfl,.inr ⟨by simp[hp],h.1 hp⟩⟩
  ·exact⟨_,rfl,.inl ⟨by simp[hp],h.2 hp⟩⟩
 |_=>exact h.elim
theorem v8e{c a b:Operand}(k:Kn D ν σ n f w e ob lkc oh)(h:Jb P D e ob lkc (.pick c a b) K):R1 P D ν σ ob oh (ev n f) (.pick c a b) K:=by
 obtain⟨v,hv,h|h⟩:=v4e (k.e c) h
 ·exact⟨[],e a,_,h.2,k.e a,fun w oo ho _ _=>by simp[execOp,ho,hv,h.1,asBool]⟩
 ·exact⟨[],e b,_,h.2,k.e b,fun w oo ho _ _=>by simp[execOp,ho,hv,h.1,asBool]⟩
theorem Bu{T T':S.C}{l:List (S.car T)}{k:List (S.car T')->Prop}(h:Vw T T' l k): ∃he:T=T',k (he▸l):=by
 unfold Vw at h
 split at h
 ·exact⟨_,h⟩
 ·exact h.elim
theorem Hh(b o k:Nat):(⟨b,o,none⟩:Addr).add k=⟨b,o+k,none⟩:=Jf b o k
theorem v8f{t:TypeId}{x:Operand}(k:Kn D ν σ n f w e ob lkc oh)(h:Jb P D e ob lkc (.load t x) K):R1 P D ν σ ob oh (ev n f) (.load t x) K:=by
 have hx:=k.e x
 simp only[Jb] at h
 generalize hvx:ev n f x=vx at hx
 generalize e x=sx at h hx
 cases hx with
 |ref o off b hν=>
  simp only at h
  cases ho:ob o with
  |none=>rw[ho] at h;exact h.elim
  |some a=>
   rw[ho] at h
   obtain⟨hR,hok⟩:=k.o o a ho
   cases a with
   |cells ty l=>
    obtain⟨s,hs,hK⟩:=Qf h
    obtain⟨b',cs,hν',hh,hrow⟩:=hR
    rw[hν] at hν';cases hν'
    obtain⟨v,hv,hl,_⟩:=z88 hrow hs
    refine⟨_,_,v,hK,hv,fun w oo hoo _ hrd=> ?_⟩
    have hokw:=hrd o (by simp) _ ho
    rw[hh] at hokw
    have:=hl w ⟨b,0,none⟩ (q2c hokw)
    rw[Hh,Nat.zero_add] at this
    simp[execOp,hoo,hvx,Instr.loadAt,Instr.sureAddr,this]
   |arr ty T N l=>
    obtain⟨hc,hK⟩:=Jc h
    obtain⟨hc,hsz⟩:=Qu hc
    obtain⟨hc,hT⟩:=Qu hc
    obtain⟨h0,hA⟩:=Qu hc
    have h0:=Nat.eq_of_beq_eq_true h0
    have hsz:=Nat.eq_of_beq_eq_true hsz
    subst h0
    obtain⟨b',cs,hν',hh,hE,hN⟩:=hR
    rw[hν] at hν';cases hν'
    refine⟨_,_,_,hK,.arr cs T N l hN hE.1 hE.2,fun w oo hoo _ hrd=> ?_⟩
    have hokw:=hrd o (by simp) _ ho
    rw[hh] at hokw
    have hload:=run_loadCells_list (P:=P) w _ cs (q2c hokw)
    have hl:cs.length=szQ P t:=by rw[hE.1,hN,hsz]
    rw[hl] at hload
    simp[execOp,hoo,hvx,Instr.loadAt,Instr.sureAddr,loadVar,q69 hT,hA,Vg hT,hload]
   |_=>exact h.elim
 |eref T o i off b m cap hν hi=>
  simp only at h
  cases ho:ob o with
  |none=>rw[ho] at h;exact h.elim
  |some a=>
   rw[ho] at h
   obtain⟨hR,hok⟩:=k.o o a ho
   cases a with
   |vec ety T' l=>
    obtain⟨rfl,h⟩:=Bu h
    obtain⟨v',xs,hν',hh,hE,_⟩:=hR
    rw[hν] at hν';cases hν'
    rw[hh] at hok
    have hm:m=l.length:=by
     rcases (Hg hok).2 with ⟨h1,_⟩|⟨g,cap',h1,_⟩
     ·cases h1
     ·cases h1;rfl
    subst hm
    obtain⟨y,hy⟩:=getq (l:=l) (k:=i) (by omega)
    obtain⟨s,hs,hK⟩:=Qf (h y hy)
    have hrowF:=hE.2 i y hy
    obtain⟨v,hv,hl,_⟩:=z88 (D:=D) (ν:=ν) (hrowF.toS) hs
    refine⟨_,_,v,hK,hv,fun w oo hoo _ hrd=> ?_⟩
    have hokw:=hrd o (by simp) _ ho
    rw[hh] at hokw
    have hrow:=Row.part (o:=i*D.size T') (k:=D.size T') (z4p hokw) rfl
    rw[Hh,Nat.zero_add] at hrow
    have:=hl w _ hrow
    rw[Hh] at this
    simp[execOp,hoo,hvx,Instr.loadAt,Instr.sureAddr,this]
   |vech ety T' l kh fh qh=>
    obtain⟨e1,hc⟩:=Bu h
    subst e1
    obtain⟨hik,hy0⟩:=hc
    subst hik
    obtain⟨v',xs,hν',hh,hE,_⟩:=hR
    rw[hν] at hν';cases hν'
    rw[hh] at hok
    have hm:m=l.length:=by
     rcases (Hg hok).2 with ⟨h1,_⟩|⟨g,cap',h1,_⟩
     ·cases h1
     ·cases h1;rfl
    subst hm
    obtain⟨y,hy⟩:=getq (l:=l) (k:=i) (by omega)
    obtain⟨s,hs,hK⟩:=Qf (hy0 y hy)
    have hrowF:=hE.2 i y hy
    unfold z9q at hrowF
    rw[if_pos rfl] at hrowF
    obtain⟨v,hv,hl,_⟩:=z88 (D:=D) (ν:=ν) hrowF hs
    refine⟨_,_,v,hK,hv,fun w oo hoo _ hrd=> ?_⟩
    have hokw:=hrd o (by simp) _ ho
    rw[hh] at hokw
    have hrow:=Row.part (o:=i*D.size T') (k:=D.size T') (z4p hokw) rfl
    rw[Hh,Nat.zero_add] at hrow
    have:=hl w _ hrow
    rw[Hh] at this
    simp[execOp,hoo,hvx,Instr.loadAt,Instr.sureAddr,this]
   |_=>exact h.elim
 |aref T N o i off b hν hi=>
  simp only at h
  cases ho:ob o with
  |none=>rw[ho] at h;exact h.elim
  |some a=>
   rw[ho] at h
   obtain⟨hR,hok⟩:=k.o o a ho
   cases a with
   |arr ty T' N' l=>
    obtain⟨hN,h2⟩:=Jc h
    clear h
    have hN:=Nat.eq_of_beq_eq_true hN
    obtain⟨rfl,h⟩:=Bu h2
    obtain⟨b',xs,hν',hh,hE,hN2⟩:=hR
    rw[hν] at hν';cases hν'
    obtain⟨y,hy⟩:=getq (l:=l) (k:=i) (by omega)
    obtain⟨s,hs,hK⟩:=Qf (h y hy)
    have hrowF:=hE.2 i y hy
    obtain⟨v,hv,hl,_⟩:=z88 (D:=D) (ν:=ν) (hrowF.toS) hs
    refine⟨_,_,v,hK,hv,fun w oo hoo _ hrd=> ?_⟩
    have hokw:=hrd o (by simp) _ ho
    rw[hh] at hokw
    have hrow:=Row.part (o:=i*D.size T') (k:=D.size T') (q2c hokw) rfl
    rw[Hh,Nat.zero_add] at hrow
    have:=hl w _ hrow
    rw[Hh] at this
    simp[execOp,hoo,hvx,Instr.loadAt,Instr.sureAddr,this]
   |_=>exact h.elim
 |fptr ad cs l off hrow hr=>
  obtain⟨s,hs,hK⟩:=Qf h
  obtain⟨v,hv,hl,_⟩:=z88 (D:=D) (ν:=ν) (hr.toS) hs
  refine⟨_,_,v,hK,hv,fun w oo hoo hV _=> ?_⟩
  have:=hl w ad (hrow.row hV)
  simp[execOp,hoo,hvx,Instr.loadAt,Instr.sureAddr,this]
 |fap ad cs T N l hN hrow hl hr=>
  obtain⟨hc,hK⟩:=Jc h
  obtain⟨hc,hsz⟩:=Qu hc
  obtain⟨hA,hT⟩:=Qu hc
  have hsz:=Nat.eq_of_beq_eq_true hsz
  refine⟨_,_,_,hK,.arr cs T N l hN hl hr,fun w oo hoo hV _=> ?_⟩
  have hload:=run_loadCells_list (P:=P) w _ cs (hrow.row hV)
  have hl:cs.length=szQ P t:=by rw[hl,hN,hsz]
  rw[hl] at hload
  simp[execOp,hoo,hvx,Instr.loadAt,Instr.sureAddr,loadVar,q69 hT,hA,Vg hT,hload]
 |_=>exact h.elim
theorem w1g{s:TypeId}{x:Operand}{i:Nat}(k:Kn D ν σ n f w e ob lkc oh)(h:Jb P D e ob lkc (.fieldAddr s x i) K):R1 P D ν σ ob oh (ev n f) (.fieldAddr s x i) K:=by
 have hx:=k.e x
 simp only[Jb] at h
 split at h
 ·rename_i fs hu
  split at h
  ·rename_i fld hf
   obtain⟨hc,h⟩:=Jc h
   obtain⟨hT,hz⟩:=Qu hc
   have hz0:0<szQ P fld.type:=by rw[←Nat.blt_eq];exact hz
   obtain⟨z,hz⟩: ∃z,szQ P fld.type=z+1:=⟨szQ P fld.type - 1,by omega⟩
   have hs:=fun w=>Vg hT w
   rw[hz] at hs
   generalize hvx:ev n f x=vx at hx
   generalize e x=sx at h hx
   have run: ∀(a:Addr) (w:World) (oo:Oper),vx= .pointer (some a)->oo.op= .fieldAddr s x i->(execOp (ev n f) oo).run P w= .ok (.value (.pointer (some (a.add fld.offset)))) w:=by
    intro a w oo ha ho
    simp[execOp,ho,hvx,ha,Instr.fieldAt,run_underlying hu,hf,Instr.sureAddr,fieldPlace,hs]
   cases hx with
   |ref o off b hν=>exact⟨_,_,_,h,.ref o _ b hν,fun w oo hoo _ _=>by rw[run _ w oo rfl hoo,Hh]⟩
   |eref T o j off b m cap hν hi=>exact⟨_,_,_,h,.eref T o j _ b m cap hν hi,fun w oo hoo _ _=>by rw[run _ w oo rfl hoo,Hh,Nat.add_assoc]⟩
   |aref T N o j off b hν hi=>exact⟨_,_,_,h,.aref T N o j _ b hν hi,fun w oo hoo _ _=>by rw[run _ w oo rfl hoo,Hh,Nat.add_assoc]⟩
   |fptr ad cs l off hr hR=>exact⟨_,_,_,h,.fptr ad cs l _ hr hR,fun w oo hoo _ _=>by rw[run _ w oo rfl hoo,q24]⟩
   |_=>exact h.elim
  ·exact h.elim
 ·exact h.elim
theorem w5d{x:Operand}(k:Kn D ν σ n f w e ob lkc oh)(h:Jb P D e ob lkc (.nilCheck x) K):R1 P D ν σ ob oh (ev n f) (.nilCheck x) K:=by
 have hx:=k.e x
 simp only[Jb] at h
 generalize hvx:ev n f x=vx at hx
 generalize e x=sx at h hx
 cases hx with
 |ref o off b hν=>exact⟨_,_,_,h,.ref o off b hν,fun w oo hoo _ _=>by simp[execOp,hoo,hvx]⟩
 |eref T o j off b m cap hν hi=>exact⟨_,_,_,h,.eref T o j off b m cap hν hi,fun w oo hoo _ _=>by simp[execOp,hoo,hvx]⟩
 |aref T N o j off b hν hi=>exact⟨_,_,_,h,.aref T N o j off b hν hi,fun w oo hoo _ _=>by simp[execOp,hoo,hvx]⟩
 |fptr ad cs l off hr hR=>exact⟨_,_,_,h,.fptr ad cs l off hr hR,fun w oo hoo _ _=>by simp[execOp,hoo,hvx]⟩
 |fap ad cs T N l hN hr hl hR=>exact⟨_,_,_,h,.fap ad cs T N l hN hr hl hR,fun w oo hoo _ _=>by simp[execOp,hoo,hvx]⟩
 |fn g a b first cap h1 h2 h3 h4=>exact⟨_,_,_,h,.fn g a b first cap h1 h2 h3 h4,fun w oo hoo _ _=>by simp[execOp,hoo,hvx]⟩
 |_=>exact h.elim
end Go.Fx
end
noncomputable section
set_option maxRecDepth 100000
namespace Go.Fx
open Go Go.RowKit Go.Fl Go.Fl.Lk
variable {S:Sig}{P:Program}
def okV:FK->Value->Prop
 | .int k,v=> ∃n,v= .int k n
 | .bool,v=> ∃b,v= .bool b
 | .str,v=> ∃s,v= .string s
def Conf(ks:List FK)(xs:List Value):Prop:=xs.length=ks.length/\ ∀(i:Nat) k v,ks[i]? =some k->xs[i]? =some v->okV k v
theorem w34{α:Type}{c:Bool}{x:Option α}{y:α}(h:(bif c then none else x)=some y):c=false/\x=some y:=by
 cases c with
 |true=>cases h
 |false=>exact⟨rfl,h⟩
theorem z5s{α:Type}{c:Bool}{x:Option α}{y:α}(h:(bif c then x else none)=some y):c=true/\x=some y:=by
 cases c with
 |true=>exact⟨rfl,h⟩
 |false=>cases h
theorem v4f(a b:ByteArray):(a==b)=decide (a=b):=by
 rcases Decidable.em (a=b) with h|h
 ·subst h
  rw[decide_eq_true rfl]
  obtain⟨⟨x⟩⟩:=a
  show ((⟨x⟩:Array UInt8)==⟨x⟩)=true
  simp
 ·rw[decide_eq_false h]
  obtain⟨⟨x⟩⟩:=a
  obtain⟨⟨y⟩⟩:=b
  show ((⟨x⟩:Array UInt8)==⟨y⟩)=false
  simp only[beq_eq_false_iff_ne,ne_eq]
  intro e
  exact h (by rw[e])
theorem q8m{t:TypeId}{k:FK}(h:z0w P t=some k):P.plainKey t=true:=by
 unfold z0w at h
 split at h<;>first|(cases h;done)|(rename_i hu;simp[Program.plainKey,hu])
theorem w35{t:TypeId}{k:FK}(h:z0w P t=some k)(d:Nat){a b:Value}(ha:okV k a)(hb:okV k b)(w:World): ∃r,(Op.equalIn (d+1) t a b).run P w= .ok r w/\(r=true↔a=b):=by
 unfold z0w at h
 split at h
 case h_4=>cases h
 ·rename_i hu
  cases h
  obtain⟨x,rfl⟩:=ha
  obtain⟨y,rfl⟩:=hb
  exact⟨_,run_equalIn_int w d t _ _ x y hu,by simp⟩
 ·rename_i hu
  cases h
  obtain⟨x,rfl⟩:=ha
  obtain⟨y,rfl⟩:=hb
  exact⟨_,run_equalIn_bool' w d t x y hu,by simp⟩
 ·rename_i hu
  cases h
  obtain⟨x,rfl⟩:=ha
  obtain⟨y,rfl⟩:=hb
  exact⟨_,run_equalIn_string w d t x y hu,by rw[←beq_toListBytes,v4f];simp⟩
theorem z7q: ∀{fs:List Field} {i:Nat} {ks:List FK},w32 P i fs=some ks->fs.length=ks.length/\ ∀(j:Nat) f,fs[j]? =some f-> ∃k,ks[j]? =some k/\f.name≠ "_" /\f.offset=i+j/\z0w P f.type=some k
 |[],i,ks,h=>by cases h;exact⟨rfl,fun j f h=>by simp at h⟩
 |f::fs,i,ks,h=>by
  unfold w32 at h
  obtain⟨h1,h⟩:=z5s h
  split at h
  case h_2=>cases h
  rename_i k ks' hk hks
  cases h
  obtain⟨hl,hg⟩:=z7q hks
  simp only[Bool.and_eq_true,decide_eq_true_eq] at h1
  refine⟨by simp[hl],fun j g hj=> ?_⟩
  cases j with
  |zero=>
   cases hj
   exact⟨k,rfl,h1.1,by simpa using Nat.eq_of_beq_eq_true h1.2,hk⟩
  |succ j=>
   obtain⟨k',a,b,c,d⟩:=hg j g hj
   exact⟨k',a,b,by omega,d⟩
theorem z7r{ks:List FK}{xs:List Value}(hx:Conf ks xs){i:Nat}{k:FK}(hk:ks[i]? =some k): ∃v,xs.toArray[i]? =some v/\okV k v:=by
 obtain⟨v,hv⟩:=getq (l:=xs) (k:=i) (by rw[hx.1];exact Qa hk)
 exact⟨v,by simpa using hv,hx.2 i k v hk hv⟩
theorem j8w{ks:List FK}{xs ys:List Value}(hx:Conf ks xs)(hy:Conf ks ys)(d:Nat)(w:World): ∀(fs:List Field),(∀f∈fs,f.name≠ "_" /\ ∃k,ks[f.offset]? =some k/\z0w P f.type=some k)->
  ∃r,(Op.eqFields (d+1) xs.toArray ys.toArray fs).run P w= .ok r w/\(r=true↔ ∀f∈fs,xs[f.offset]? =ys[f.offset]?)
 |[],_=>⟨true,by simp[Op.eqFields],by simp⟩
 |f::fs,h=>by
  obtain⟨hn,k,hk,hp⟩:=h f (by simp)
  obtain⟨r',hr',hi'⟩:=j8w hx hy d w fs fun g hg=>h g (by simp[hg])
  obtain⟨a,ha,oa⟩:=z7r hx hk
  obtain⟨b,hb,ob⟩:=z7r hy hk
  obtain⟨r,hr,hi⟩:=w35 hp d oa ob w
  simp only[Op.eqFields,hn,ne_eq,not_false_eq_true,if_true,Sem.run_bind,run_part_plain w (q8m hp) ha,run_part_plain w (q8m hp) hb,hr,Result.andThen_ok]
  have e1:xs[f.offset]? =some a:=by simpa using ha
  have e2:ys[f.offset]? =some b:=by simpa using hb
  cases r with
  |false=>
   refine⟨false,by simp,?_⟩
   simp only[Bool.false_eq_true,false_iff]
   intro hh
   have:=hh f (by simp)
   rw[e1,e2] at this
   exact absurd (hi.2 (Option.some.inj this)) (by simp)
  |true=>
   refine⟨r',by simpa using hr',?_⟩
   rw[hi']
   have:=hi.1 rfl
   simp[e1,e2,this]
theorem w36{ks:List FK}{xs ys:List Value}(hx:Conf ks xs)(hy:Conf ks ys){e:TypeId}{k:FK}(hp:z0w P e=some k)(d:Nat)(w:World): ∀(is:List Nat),(∀i∈is,ks[i]? =some k)->
  ∃r,(Op.eqItems (d+1) e 1 xs.toArray ys.toArray is).run P w= .ok r w/\(r=true↔ ∀i∈is,xs[i]? =ys[i]?)
 |[],_=>⟨true,by simp[Op.eqItems],by simp⟩
 |i::is,h=>by
  have hk:=h i (by simp)
  obtain⟨r',hr',hi'⟩:=w36 hx hy hp d w is fun g hg=>h g (by simp[hg])
  obtain⟨a,ha,oa⟩:=z7r hx hk
  obtain⟨b,hb,ob⟩:=z7r hy hk
  obtain⟨r,hr,hi⟩:=w35 hp d oa ob w
  simp only[Op.eqItems,Nat.mul_one,Sem.run_bind,run_part_plain w (q8m hp) ha,run_part_plain w (q8m hp) hb,hr,Result.andThen_ok]
  have e1:xs[i]? =some a:=by simpa using ha
  have e2:ys[i]? =some b:=by simpa using hb
  cases r with
  |false=>
   refine⟨false,by simp,?_⟩
   simp only[Bool.false_eq_true,false_iff]
   intro hh
   have:=hh i (by simp)
   rw[e1,e2] at this
   exact absurd (hi.2 (Option.some.inj this)) (by simp)
  |true=>
   refine⟨r',by simpa using hr',?_⟩
   rw[hi']
   have:=hi.1 rfl
   simp[e1,e2,this]
theorem w7y{t:TypeId}{ks:List FK}(hq:w1f P t=some ks){xs ys:List Value}(hx:Conf ks xs)(hy:Conf ks ys)(d:Nat)(w:World):
  ∃r,(Op.equalIn (d+2) t (.agg xs.toArray) (.agg ys.toArray)).run P w= .ok r w/\(r=true↔xs=ys):=by
 unfold w1f at hq
 split at hq
 ·rename_i fs hu
  obtain⟨hs,hq⟩:=w34 hq
  obtain⟨hl,hg⟩:=z7q hq
  have hfs:P.fieldsOf t=fs:=by simp[Program.fieldsOf,hu]
  obtain⟨r,hr,hi⟩:=j8w hx hy d w fs.toList fun f hf=>by
   obtain⟨j,hj⟩:=List.mem_iff_getElem?.1 hf
   obtain⟨k,a,b,c,e⟩:=hg j f hj
   exact⟨b,k,by rw[c,Nat.zero_add];exact a,e⟩
  refine⟨r,?_,?_⟩
  ·rw[show d+2=(d+1)+1 from rfl,run_equalIn_struct w (d+1) t _ _ (by rw[hfs];exact hu) hs,hfs];exact hr
  ·rw[hi]
   constructor
   ·intro h
    refine List.ext_getElem? fun j=> ?_
    rcases Nat.lt_or_ge j ks.length with hj|hj
    ·obtain⟨f,hf⟩:=getq (l:=fs.toList) (k:=j) (by omega)
     obtain⟨k,a,b,c,e⟩:=hg j f hf
     have:=h f (List.mem_of_getElem? hf)
     rw[c,Nat.zero_add] at this
     exact this
    ·rw[List.getElem?_eq_none (by rw[hx.1];exact hj),List.getElem?_eq_none (by rw[hy.1];exact hj)]
   ·intro h;subst h;simp
 ·rename_i n e hu
  obtain⟨hs,hq⟩:=z5s hq
  simp only[Bool.and_eq_true] at hs
  obtain⟨i,hi⟩:=Option.isSome_iff_exists.1 hs.1
  obtain⟨k,hk,rfl⟩:=Option.map_eq_some_iff.1 hq
  obtain⟨r,hr,hri⟩:=w36 hx hy hk d w (List.range n) fun i hi=>by
   rw[List.getElem?_replicate,if_pos (List.mem_range.1 hi)]
  refine⟨r,?_,?_⟩
  ·rw[show d+2=(d+1)+1 from rfl,run_equalIn_array w (d+1) _ _ hu hi,Nat.eq_of_beq_eq_true hs.2];exact hr
  ·rw[hri]
   have h1:=hx.1
   have h2:=hy.1
   simp only[List.length_replicate] at h1 h2
   constructor
   ·intro h
    refine List.ext_getElem? fun j=> ?_
    rcases Nat.lt_or_ge j n with hj|hj
    ·exact h j (List.mem_range.2 hj)
    ·rw[List.getElem?_eq_none (by omega),List.getElem?_eq_none (by omega)]
   ·intro h;subst h;simp
 ·cases hq
theorem j1c{t:TypeId}{k:FK}(h:z0w P t=some k)(em:Bool)(d:Nat){a:Value}(ha:okV k a)(w:World):(Instr.checkKey em (d+1) t a).run P w= .ok () w:=by
 unfold z0w at h
 split at h
 case h_4=>cases h
 all_goals
  rename_i hu
  cases h
  obtain⟨x,rfl⟩:=ha
  unfold Instr.checkKey
  simp[Sem.run_bind,run_underlying hu]
theorem w5e{t:TypeId}{ks:List FK}(hq:w1f P t=some ks){xs:List Value}(hx:Conf ks xs)(em:Bool)(d:Nat)(w:World):(Instr.checkKey em (d+2) t (.agg xs.toArray)).run P w= .ok () w:=by
 unfold w1f at hq
 split at hq
 ·rename_i fs hu
  obtain⟨hs,hq⟩:=w34 hq
  obtain⟨hl,hg⟩:=z7q hq
  rw[show d+2=(d+1)+1 from rfl,Instr.checkKey]
  simp only[Sem.run_bind,run_underlying hu,Result.andThen_ok]
  rw[←Array.forIn_toList]
  have hall: ∀f∈fs.toList,f.name≠ "_" /\ ∃k,ks[f.offset]? =some k/\z0w P f.type=some k:=fun f hf=>by
   obtain⟨j,hj⟩:=List.mem_iff_getElem?.1 hf
   obtain⟨k,a,b,c,e⟩:=hg j f hj
   exact⟨b,k,by rw[c,Nat.zero_add];exact a,e⟩
  clear hg hq hl
  generalize fs.toList=L at hall
  induction L with
  |nil=>simp
  |cons f L ih=>
   obtain⟨hn,k,hk,hp⟩:=hall f (by simp)
   obtain⟨a,ha,oa⟩:=z7r hx hk
   simp only[List.forIn_cons,Sem.run_bind,hn,ne_eq,not_false_eq_true,if_true,run_part_plain w (q8m hp) ha,j1c hp em d oa w,Result.andThen_ok,Sem.run_pure]
   exact ih fun g hg=>hall g (by simp[hg])
 ·rename_i n e hu
  obtain⟨hs,hq⟩:=z5s hq
  simp only[Bool.and_eq_true] at hs
  obtain⟨i,hi⟩:=Option.isSome_iff_exists.1 hs.1
  obtain⟨k,hp,rfl⟩:=Option.map_eq_some_iff.1 hq
  rw[show d+2=(d+1)+1 from rfl,Instr.checkKey]
  simp only[Sem.run_bind,run_underlying hu,Result.andThen_ok]
  simp only[Std.Legacy.Range.forIn_eq_forIn_range',Std.Legacy.Range.size,Nat.sub_zero,Nat.add_one_sub_one,Nat.div_one]
  have hall: ∀i∈List.range' 0 n,(List.replicate n k)[i]? =some k:=fun i hi=>by
   rw[List.getElem?_replicate,if_pos (by simpa using hi)]
  generalize List.range' 0 n=is at hall
  induction is with
  |nil=>simp
  |cons j is ih=>
   obtain⟨a,ha,oa⟩:=z7r hx (hall j (by simp))
   have ha':xs.toArray[j*P.cellsOf e]? =some a:=by rw[Nat.eq_of_beq_eq_true hs.2,Nat.mul_one];exact ha
   simp only[List.forIn_cons,Sem.run_bind,run_sizeOf w hi,Result.andThen_ok,run_part_plain w (q8m hp) ha',j1c hp em d oa w,Sem.run_pure]
   exact ih fun y hy=>hall y (by simp[hy])
 ·cases hq
theorem v1w{a b:FV S}{k:FK}(ha:j8t a=some k)(hb:j8t b=some k)(h:valF a=valF b):a=b:=by
 cases a<;>cases b<;>simp_all [j8t,valF]
theorem v1x{a:FV S}{k:FK}(ha:j8t a=some k):okV k (valF a):=by
 cases a<;>cases ha<;>exact⟨_,rfl⟩
theorem z1f{l:List (FV S)}{ks:List FK}(h:l.map j8t=ks.map some):Conf ks (l.map valF):=by
 have hl:l.length=ks.length:=by simpa using congrArg List.length h
 refine⟨by simp[hl],fun i k v hk hv=> ?_⟩
 rw[List.getElem?_map] at hv
 obtain⟨a,ha,rfl⟩:=Option.map_eq_some_iff.1 hv
 have:=congrArg (·[i]?) h
 simp only[List.getElem?_map,ha,hk,Option.map_some,Option.some.injEq] at this
 exact v1x this
theorem w7z{l l':List (FV S)}{ks:List FK}(h:l.map j8t=ks.map some)(h':l'.map j8t=ks.map some)(he:l.map valF=l'.map valF):l=l':=by
 have hl:l.length=ks.length:=by simpa using congrArg List.length h
 have hl':l'.length=ks.length:=by simpa using congrArg List.length h'
 refine List.ext_getElem? fun i=> ?_
 rcases Nat.lt_or_ge i ks.length with hi|hi
 ·obtain⟨a,ha⟩:=getq (l:=l) (k:=i) (by omega)
  obtain⟨b,hb⟩:=getq (l:=l') (k:=i) (by omega)
  obtain⟨k,hk⟩:=getq (l:=ks) (k:=i) hi
  have e1:=congrArg (·[i]?) h
  have e2:=congrArg (·[i]?) h'
  have e3:=congrArg (·[i]?) he
  simp only[List.getElem?_map,ha,hb,hk,Option.map_some,Option.some.injEq] at e1 e2 e3
  rw[ha,hb,v1w e1 e2 e3]
 ·rw[List.getElem?_eq_none (by omega),List.getElem?_eq_none (by omega)]
theorem v5b{v:Value}{k:FK}(h:okV k v)(n:Nat):Instr.sameBits n v v=true:=by
 cases k with
 |int k=>obtain⟨x,rfl⟩:=h;cases n<;>simp[Instr.sameBits]
 |bool=>obtain⟨x,rfl⟩:=h;cases n<;>simp[Instr.sameBits]
 |str=>obtain⟨x,rfl⟩:=h;cases n<;>simp[Instr.sameBits,v4f]
theorem v5c{l:List Value}(h:2<=l.length):asV l= .agg l.toArray:=by
 match l,h with
 |[_],h=>simp at h
 |[],_=>rfl
 |_::_::_,_=>rfl
theorem j5d{D:Shp S}{K:S.C}{t:TypeId}{ks:List FK}(hq:w1f P t=some ks)(h2:2<=ks.length)(hc: ∀x,(D.shape K x).map j8t=ks.map some)(hinj: ∀a b,D.shape K a=D.shape K b->a=b):KeyOk P t (kenc D K):=by
 have hlen: ∀x,((D.shape K x).map (valF (S:=S))).length=ks.length:=fun x=>(z1f (hc x)).1
 have hk: ∀x,kenc D K x= .agg ((D.shape K x).map valF).toArray:=fun x=>v5c (by rw[hlen];exact h2)
 have hd: ∃td,P.underlying t=some td/\ ∀(a b:Array Value),Instr.sameNow td (.agg a) (.agg b)=none:=by
  unfold w1f at hq
  split at hq
  ·rename_i fs hu;exact⟨_,hu,fun a b=>rfl⟩
  ·rename_i n e hu;exact⟨_,hu,fun a b=>rfl⟩
  ·cases hq
 obtain⟨td,hu,hs⟩:=hd
 have inj: ∀a b,kenc D K a=kenc D K b->a=b:=fun a b h=>by
  rw[hk,hk] at h
  have h:(D.shape K a).map valF=(D.shape K b).map valF:=by simpa using h
  exact hinj a b (w7z (hc a) (hc b) h)
 refine⟨inj,fun e k w=> ?_,fun es k w hes=> ?_,fun k w=> ?_⟩
 ·rw[hk];exact w5e hq (z1f (hc k)) e 9998 w
 ·have key: ∀(es:List MapEntry) (i:Nat),z5r (kenc D K) es->(Instr.findAsking t (kenc D K k) es i).run P w= .ok (fidx (kenc D K) k es i) w:=by
   intro es
   induction es with
   |nil=>intro i _;simp[Instr.findAsking,fidx]
   |cons e es ih=>
    intro i h
    obtain⟨a,ha⟩:=h e (by simp)
    obtain⟨r,hr,hi⟩:=w7y hq (z1f (hc k)) (z1f (hc a)) 9998 w
    have hr':(Op.equal t (kenc D K k) e.key).run P w= .ok r w:=by rw[ha,hk,hk];exact hr
    simp only[Instr.findAsking,Sem.run_bind,hr',Result.andThen_ok]
    cases r with
    |true=>
     have he:=w7z (hc k) (hc a) (hi.1 rfl)
     have:e.key=kenc D K k:=by rw[ha,hinj _ _ he]
     simp[fidx,this]
    |false=>
     have: ¬e.key=kenc D K k:=fun hh=>by
      rw[ha] at hh
      have:=inj _ _ hh
      subst this
      exact absurd (hi.2 rfl) (by simp)
     simp only[Bool.false_eq_true,if_false,fidx,this]
     exact ih (i+1) fun x hx=>h x (by simp[hx])
  unfold Instr.findKey
  simp only[Sem.run_bind,run_underlying hu,Result.andThen_ok]
  cases es with
  |nil=>simp[Instr.findNow,fidx]
  |cons e es=>
   obtain⟨a,ha⟩:=hes e (by simp)
   have:Instr.findNow td (kenc D K k) (e::es) 0=none:=by simp only[Instr.findNow,ha,hk,hs]
   rw[this]
   exact key (e::es) 0 hes
 ·unfold Instr.keyThatStays
  have:Instr.sameBits 10000 (kenc D K k) (kenc D K k)=true:=by
   rw[hk]
   show (_ && _)=true
   simp only[beq_self_eq_true,Bool.true_and,List.all_eq_true]
   intro q hq'
   obtain⟨i,hi⟩:=List.mem_iff_getElem?.1 hq'
   simp only[List.getElem?_zip_eq_some] at hi
   obtain⟨k',hk'⟩:=getq (l:=ks) (k:=i) (by rw[←hlen k];exact Qa hi.1)
   have e:q.1=q.2:=Option.some.inj (hi.1.symm.trans hi.2)
   rw[←e]
   exact v5b ((z1f (hc k)).2 i k' q.1 hk' hi.1) _
  simp[this]
end Go.Fx
end
noncomputable section
set_option maxRecDepth 100000
namespace Go.Fx
open Go Go.RowKit Go.Fl Go.Fl.Lk
variable {S:Sig}{P:Program}{D:Shp S}{ν:Nm}{σ:Hv}{n:Nat}{f:Fr}
variable {w:World}{e:Operand->SV S}{ob:Nat->Option (AO S)}{lkc:Nat->Nat->SV S}{oh:Nat->HObj}{K:List Nat->SV S->Prop}
theorem Uf{v:Value}{k:IntKind}{a:Int}(h:SRep D ν σ v (.f (.int k a))):v= .int k a:=by
 cases h with
 |f h=>cases h;rfl
theorem U8{v:Value}{a:ByteArray}(h:SRep D ν σ v (.f (.str a))):v= .string a:=by
 cases h with
 |f h=>cases h;rfl
theorem v4g{x:Operand}{T:S.C}{l:List (S.car T)}(k:Kn D ν σ n f w e ob lkc oh)(h:lstS ob (e x)=some ⟨T,l⟩):RepF D σ (ev n f x) (.sl T l):=by
 have hx:=k.e x
 generalize hvx:ev n f x=vx at hx
 generalize e x=sx at h hx
 cases hx with
 |f hf=>
  cases hf with
  |sl T' l' a cap c h1 h2 h3 h4=>
   simp only[lstS] at h
   cases h
   exact .sl _ _ a cap c h1 h2 h3 h4
  |_=>cases h
 |hnd o v hν h1=>
  simp only[lstS] at h
  cases ho:ob o with
  |none=>rw[ho] at h;cases h
  |some a=>
   rw[ho] at h
   obtain⟨hR,hok⟩:=k.o o a ho
   cases a with
   |frz T' l'=>
    cases h
    obtain⟨v',hν',_,hr⟩:=hR
    rw[hν] at hν';cases hν'
    exact hr
   |_=>cases h
 |_=>cases h
theorem j1d{st el:TypeId}{x y:Operand}{q:IntKind}{i:Int}{a:Addr}{len cap:Nat}(hx:ev n f x= .slice (some a) len cap)(hy:ev n f y= .int q i)(h0:0<=i)(hk:i<(len:Int))
  (hu:P.underlying st=some (.slice el))(hT:hasT P el=true)(w:World){oo:Oper}(ho:oo.op= .indexAddr st x y):
  (execOp (ev n f) oo).run P w= .ok (.value (.pointer (some (a.add (i.toNat*szQ P el))))) w:=by
 simp[execOp,ho,hx,hy,Instr.indexAt,asIntOf,run_underlying hu,Vg hT,h0,hk]
theorem q8n{st el:TypeId}{x y:Operand}{q:IntKind}{i:Int}{a:Addr}{len:Nat}(hx:ev n f x= .pointer (some a))(hy:ev n f y= .int q i)(h0:0<=i)(hk:i<(len:Int))
  (hu:P.underlying st=some (.array len el))(hT:hasT P el=true)(w:World){oo:Oper}(ho:oo.op= .indexAddr st x y):
  (execOp (ev n f) oo).run P w= .ok (.value (.pointer (some (a.add (i.toNat*szQ P el))))) w:=by
 simp[execOp,ho,hx,hy,Instr.indexAt,asIntOf,run_underlying hu,Vg hT,h0,hk,Instr.sureAddr]
theorem w1h{t:TypeId}{x j:Operand}(hD:D.Ok)(k:Kn D ν σ n f w e ob lkc oh)(h:Jb P D e ob lkc (.indexAddr t x j) K):R1 P D ν σ ob oh (ev n f) (.indexAddr t x j) K:=by
 simp only[Jb] at h
 split at h
 case h_2=>exact h.elim
 rename_i _ i hj
 have hj':=Uf (hj▸k.e j)
 split at h
 ·rename_i el hu
  obtain⟨hT,h⟩:=Jc h
  split at h
  ·rename_i T l hl
   obtain⟨hsz,⟨h0,h1⟩,h⟩:=Jc h
   have hsz:=Nat.eq_of_beq_eq_true hsz
   obtain⟨y,hy⟩:=getq (l:=l) (k:=i.toNat) (by omega)
   obtain⟨a,cap,hv,_,_,hel⟩:=(v4g k hl).toRSl hD
   obtain⟨ad,cs,ha,hcl,hrow,hR⟩:=hel _ y hy
   subst ha
   refine⟨_,_,_,h y hy,.fptr (ad.add (i.toNat*D.size T)) cs _ 0 hrow hR,fun w oo hoo _ _=> ?_⟩
   rw[j1d hv hj' h0 h1 hu hT w hoo,hsz]
   simp[Addr.add]
  ·rename_i hl
   have hx:=k.e x
   generalize hvx:ev n f x=vx at hx
   generalize e x=sx at h hx
   cases hx with
   |hnd o v hν hone=>
    simp only at h
    cases ho:ob o with
    |none=>rw[ho] at h;exact h.elim
    |some a=>
     rw[ho] at h
     obtain⟨hR,hok⟩:=k.o o a ho
     cases a with
     |vec ety T l=>
      obtain⟨hsz,⟨h0,h1⟩,h⟩:=Jc h
      have hsz:=Nat.eq_of_beq_eq_true hsz
      obtain⟨v',xs,hν',hh,hE,_⟩:=hR
      rw[hν] at hν';cases hν'
      rw[hh] at hok
      obtain⟨g,cap,rfl⟩:=w07 hok (by omega)
      refine⟨_,_,_,h,.eref T o i.toNat 0 g l.length cap hν (by omega),fun w oo hoo _ _=> ?_⟩
      rw[j1d hvx hj' h0 h1 hu hT w hoo,hsz,Hh,Nat.zero_add,Nat.add_zero]
     |vech ety T l kh fh qh=>
      obtain⟨hsz,⟨h0,h1⟩,h⟩:=Jc h
      have hsz:=Nat.eq_of_beq_eq_true hsz
      obtain⟨v',xs,hν',hh,hE,_⟩:=hR
      rw[hν] at hν';cases hν'
      rw[hh] at hok
      obtain⟨g,cap,rfl⟩:=w07 hok (by omega)
      refine⟨_,_,_,h,.eref T o i.toNat 0 g l.length cap hν (by omega),fun w oo hoo _ _=> ?_⟩
      rw[j1d hvx hj' h0 h1 hu hT w hoo,hsz,Hh,Nat.zero_add,Nat.add_zero]
     |_=>exact h.elim
   |_=>exact h.elim
 ·rename_i len el hu
  obtain⟨hT,h⟩:=Jc h
  have hx:=k.e x
  generalize hvx:ev n f x=vx at hx
  generalize e x=sx at h hx
  cases hx with
  |ref o off b hν=>
   simp only at h
   cases ho:ob o with
   |none=>rw[ho] at h;exact h.elim
   |some a=>
    rw[ho] at h
    obtain⟨hR,hok⟩:=k.o o a ho
    cases a with
    |arr ty T N l=>
     obtain⟨hc,⟨h0,h1⟩,h⟩:=Jc h
     obtain⟨hc,hN⟩:=Qu hc
     obtain⟨hc,hsz⟩:=Qu hc
     have hc:=Nat.eq_of_beq_eq_true hc
     have hN:=Nat.eq_of_beq_eq_true hN
     have hsz:=Nat.eq_of_beq_eq_true hsz
     refine⟨_,_,_,h,.aref T N o i.toNat 0 b hν (by omega),fun w oo hoo _ _=> ?_⟩
     rw[q8n hvx hj' h0 h1 hu hT w hoo,hsz,Hh,hc,Nat.zero_add,Nat.add_zero]
    |cells ty l=>
     simp only at h
     cases hq:v4c j with
     |false=>
      rw[hq] at h
      obtain⟨⟨h0,h1⟩,h⟩:=h
      have h:=j8u h (show i.toNat<len by omega) (by omega)
      refine⟨_,_,_,h,.ref o _ b hν,fun w oo hoo _ _=> ?_⟩
      rw[q8n hvx hj' h0 (by omega) hu hT w hoo,Hh]
     |true=>
     rw[hq] at h
     obtain⟨hc,h⟩:=Jc h
     obtain⟨hlt,h0⟩:=Qu hc
     have h0:0<=i:=of_decide_eq_true h0
     have hlt:i.toNat<len:=by rw[←Nat.blt_eq];exact hlt
     refine⟨_,_,_,h,.ref o _ b hν,fun w oo hoo _ _=> ?_⟩
     rw[q8n hvx hj' h0 (by omega) hu hT w hoo,Hh]
    |_=>exact h.elim
  |fptr ad cs l off hrow hr=>
   obtain⟨hc,h⟩:=Jc h
   obtain⟨hlt,h0⟩:=Qu hc
   have h0:0<=i:=of_decide_eq_true h0
   have hlt:i.toNat<len:=by rw[←Nat.blt_eq];exact hlt
   refine⟨_,_,_,h,.fptr ad cs l _ hrow hr,fun w oo hoo _ _=> ?_⟩
   rw[q8n hvx hj' h0 (by omega) hu hT w hoo,q24]
  |fap ad cs T N l hN hrow hl hr=>
   obtain⟨hc,⟨h0,h1⟩,h⟩:=Jc h
   obtain⟨hsz,hN'⟩:=Qu hc
   have hN':=Nat.eq_of_beq_eq_true hN'
   have hsz:=Nat.eq_of_beq_eq_true hsz
   obtain⟨y,hy⟩:=getq (l:=l) (k:=i.toNat) (by omega)
   refine⟨_,_,_,h y hy,.fptr (ad.add (i.toNat*D.size T)) _ _ 0 (VRow.part hrow rfl) (hr _ y hy),fun w oo hoo _ _=> ?_⟩
   rw[q8n hvx hj' h0 h1 hu hT w hoo,hsz]
   simp[Addr.add]
  |_=>exact h.elim
 ·exact h.elim
theorem v5d{s:TypeId}{x:Operand}{i:Nat}(k:Kn D ν σ n f w e ob lkc oh)(h:Jb P D e ob lkc (.field s x i) K):R1 P D ν σ ob oh (ev n f) (.field s x i) K:=by
 simp only[Jb] at h
 split at h
 case h_2=>exact h.elim
 rename_i fs l hu hx
 split at h
 case h_2=>exact h.elim
 rename_i fld hf
 obtain⟨s',hs,hK⟩:=Qf h
 have hr:=hx▸k.e x
 generalize hvx:ev n f x=vx at hr
 cases hr with
 |agg cs _ hl h1 h2=>
  obtain⟨v,hv,_,hp⟩:=z88 (D:=D) (ν:=ν) (σ:=σ) (cs:=cs) ⟨hl,h1,h2⟩ hs
  exact⟨_,_,v,hK,hv,fun w oo hoo _ _=>by simp[execOp,hoo,hvx,Instr.field,run_underlying hu,hf,asAgg,hp]⟩
theorem w70{x:Operand}{i:Nat}(k:Kn D ν σ n f w e ob lkc oh)(h:Jb P D e ob lkc (.extract x i) K):R1 P D ν σ ob oh (ev n f) (.extract x i) K:=by
 simp only[Jb] at h
 split at h
 case h_2=>exact h.elim
 rename_i l hx
 obtain⟨s',hs,hK⟩:=Qf h
 have hr:=hx▸k.e x
 generalize hvx:ev n f x=vx at hr
 cases hr with
 |tup cs _ hl h1=>
  obtain⟨v,hv⟩:=getq (l:=cs) (k:=i) (by rw[hl];exact Qa hs)
  exact⟨_,_,v,hK,h1 _ v s' hv hs,fun w oo hoo _ _=>by simp[execOp,hoo,hvx,Instr.extract,hv]⟩
theorem w5f{g:FuncId}{a b:Array Operand}(k:Kn D ν σ n f w e ob lkc oh)(h:Jb P D e ob lkc (.makeFunc (.func g) a b) K):R1 P D ν σ ob oh (ev n f) (.makeFunc (.func g) a b) K:=by
 have hm: ∀(a:Array Operand) (j:Nat) v s,(a.toList.map (ev n f))[j]? =some v->(a.toList.map e)[j]? =some s->SRep D ν σ v s:=by
  intro a j v s hv hs
  rw[List.getElem?_map] at hv hs
  rcases hq:a.toList[j]? with _|x
  ·rw[hq] at hv;cases hv
  ·rw[hq] at hv hs;cases hv;cases hs
   exact k.e x
 refine⟨_,_,.func (.func g) (a.toList.map (ev n f)).toArray (b.toList.map (ev n f)).toArray,h,.fn g _ _ _ _ (by simp) (hm a) (by simp) (hm b),fun w oo hoo _ _=> ?_⟩
 have e1: ∀a:Array Operand,(a.toList.map (ev n f)).toArray=a.map (ev n f):=by intro a;apply Array.ext';simp
 rw[e1,e1]
 simp[execOp,hoo,Instr.makeFunc]
theorem z20{k:IntKind}{r:Int}{K':SV S->Prop}(h:j8s k r K'): ∃r',K' (.f (.int k r'))/\k.wrap r=r':=by
 unfold j8s at h
 split at h
 ·exact⟨_,h.2,nwi rfl h.1⟩
 ·exact⟨_,h,rfl⟩
def w71(P:Program)(D:Shp S)(ν:Nm)(σ:Hv)(r:Operand->Value)(o:Op)(K:SV S->Prop):Prop:=
 ∃s v,K s/\SRep D ν σ v s/\ ∀(w:World) (oo:Oper),oo.op=o->(execOp r oo).run P w= .ok (.value v) w
theorem v5e{op:BinOp}{t u:TypeId}{x y:Operand}{k:IntKind}{a b:Int}{K:SV S->Prop}(hx:ev n f x= .int k a)(hy:ev n f y= .int k b)(h:binI op k a b K):
  w71 P D ν σ (ev n f) (.binOp op t x y u) K:=by
 have run: ∀(w:World) (oo:Oper) (v:Value),oo.op= .binOp op t x y u->(binOp op t (.int k a) (.int k b)).run P w= .ok v w->(execOp (ev n f) oo).run P w= .ok (.value v) w:=by
  intro w oo v ho hr
  have hg:(eqGuard op t x y (.int k a) (.int k b)).run P w= .ok () w:=by
   unfold eqGuard
   split<;>simp
  simp[execOp,ho,hx,hy,hg,hr]
 unfold binI at h
 split at h
 ·obtain⟨r,hK,hr⟩:=z20 h
  exact⟨_,_,hK,.f (.int k r),fun w oo ho=>run w oo _ ho (by simp[binOp,Op.intArith,hr])⟩
 ·obtain⟨r,hK,hr⟩:=z20 h
  exact⟨_,_,hK,.f (.int k r),fun w oo ho=>run w oo _ ho (by simp[binOp,Op.intArith,hr])⟩
 ·obtain⟨r,hK,hr⟩:=z20 h
  exact⟨_,_,hK,.f (.int k r),fun w oo ho=>run w oo _ ho (by simp[binOp,Op.intArith,hr])⟩
 ·obtain⟨r,hK,hr⟩:=z20 h.2
  exact⟨_,_,hK,.f (.int k r),fun w oo ho=>run w oo _ ho (by simp[binOp,Op.intDiv,hr,h.1])⟩
 ·exact⟨_,_,h.2,.f (.int k _),fun w oo ho=>run w oo _ ho (by simp[binOp,Op.intDiv,h.1])⟩
 ·exact⟨_,_,h,.pb _ _,fun w oo ho=>run w oo _ ho (by simp[binOp,Op.intCmp];by_cases hab:a=b<;>simp[hab])⟩
 ·exact⟨_,_,h,.pbn _ _,fun w oo ho=>run w oo _ ho (by simp[binOp,Op.intCmp];by_cases hab:a=b<;>simp[hab])⟩
 ·exact⟨_,_,h,.pb _ _,fun w oo ho=>run w oo _ ho (by simp[binOp,Op.intCmp])⟩
 ·exact⟨_,_,h,.pb _ _,fun w oo ho=>run w oo _ ho (by simp[binOp,Op.intCmp])⟩
 ·exact⟨_,_,h,.pb _ _,fun w oo ho=>run w oo _ ho (by simp[binOp,Op.intCmp])⟩
 ·exact⟨_,_,h,.pb _ _,fun w oo ho=>run w oo _ ho (by simp[binOp,Op.intCmp])⟩
 ·exact h.elim
theorem v5f{op:BinOp}{t u:TypeId}{x y:Operand}{a b:ByteArray}{K:SV S->Prop}(hx:ev n f x= .string a)(hy:ev n f y= .string b)(h:binT op a b K):
  w71 P D ν σ (ev n f) (.binOp op t x y u) K:=by
 have run: ∀(w:World) (oo:Oper) (v:Value),oo.op= .binOp op t x y u->(Op.stringOp op a b).run P w= .ok v w->(op≠ .shl/\op≠ .shr)->(execOp (ev n f) oo).run P w= .ok (.value v) w:=by
  intro w oo v ho hr hs
  have hg:(eqGuard op t x y (.string a) (.string b)).run P w= .ok () w:=by
   unfold eqGuard
   split<;>simp
  have hb:(binOp op t (.string a) (.string b)).run P w= .ok v w:=by
   cases op<;>first|exact hr|exact absurd rfl hs.1|exact absurd rfl hs.2
  simp[execOp,ho,hx,hy,hg,hb]
 have lt:Op.bytesLess a.toList b.toList=decide (blt a b):=j6g a b
 unfold binT at h
 split at h
 ·have h1: ¬((a.size+b.size:Nat):Int)>IntKind.i64.max:=by
   have:IntKind.i64.max=9223372036854775807:=rfl
   rw[this];omega
  exact⟨_,_,h.2,.f (.str (a++b)),fun w oo ho=>run w oo _ ho (by simp only[Op.stringOp,if_neg h1];rfl) (by simp)⟩
 ·exact⟨_,_,h,.pb _ _,fun w oo ho=>run w oo _ ho (by simp[Op.stringOp,z1b]) (by simp)⟩
 ·exact⟨_,_,h,.pbn _ _,fun w oo ho=>run w oo _ ho (by simp[Op.stringOp,z1b]) (by simp)⟩
 ·exact⟨_,_,h,.pb _ _,fun w oo ho=>run w oo _ ho (by simp only[Op.stringOp,lt];rfl) (by simp)⟩
 ·refine⟨_,_,h,.pbn _ _,fun w oo ho=>run w oo _ ho ?_ (by simp)⟩
  have:=w1d a b
  simp only[Op.stringOp,lt,z1b]
  rw[show (decide (blt a b)||decide (a=b))= !decide (blt b a) by rw[←this];simp]
  rfl
 ·refine⟨_,_,h,.pb _ _,fun w oo ho=>run w oo _ ho ?_ (by simp)⟩
  have:=w1d a b
  simp only[Op.stringOp,lt,z1b,this]
  rfl
 ·refine⟨_,_,h,.pbn _ _,fun w oo ho=>run w oo _ ho ?_ (by simp)⟩
  simp only[Op.stringOp,lt]
  rfl
 ·exact h.elim
theorem j1e{s:SV S}{v:Value}{b:Bool}(hs:SRep D ν σ v s)(h:w5c s=some b):v= .bool b:=by
 cases hs with
 |lit c=>cases h;rfl
 |f hf=>
  cases hf with
  |bool c=>cases h;rfl
  |_=>cases h
 |pb p d=>cases h;rfl
 |pbn p d=>cases h;rfl
 |_=>cases h
theorem w37{op:BinOp}{t u:TypeId}{x y:Operand}{k k':IntKind}{a b r:Int}{K:SV S->Prop}(hx:ev n f x= .int k a)(hy:ev n f y= .int k' b)
  (hop:op= .shl/\r=k.wrap (a*2 ^ min b.toNat k.bits)∨op= .shr/\r=a.fdiv (2 ^ min b.toNat k.bits))(hb:0<=b)(h:K (.f (.int k r))):w71 P D ν σ (ev n f) (.binOp op t x y u) K:=by
 have hb': ¬b<0:=by omega
 refine⟨_,_,h,.f (.int k r),fun w oo ho=> ?_⟩
 have hg:(eqGuard op t x y (.int k a) (.int k' b)).run P w= .ok () w:=by
  unfold eqGuard
  split<;>simp
 rcases hop with ⟨rfl,rfl⟩|⟨rfl,rfl⟩<;>simp[execOp,ho,hx,hy,hg,binOp,Op.shift,hb']
theorem w1i{op:BinOp}{t u:TypeId}{x y:Operand}{k k':IntKind}{a b r:Int}{K:SV S->Prop}(hx:ev n f x= .int k a)(hy:ev n f y= .int k' b)(hk:(k==k')=true)
  (hop:op= .and/\r=k.wrap (BitVec.ofInt k.bits a &&& BitVec.ofInt k.bits b).toNat∨op= .or/\r=k.wrap (BitVec.ofInt k.bits a|||BitVec.ofInt k.bits b).toNat∨op= .xor/\r=k.wrap (BitVec.ofInt k.bits a ^^^ BitVec.ofInt k.bits b).toNat)
  (h:K (.f (.int k r))):w71 P D ν σ (ev n f) (.binOp op t x y u) K:=by
 have hk':k=k':=by simpa using hk
 subst hk'
 refine⟨_,_,h,.f (.int k r),fun w oo ho=> ?_⟩
 have hg:(eqGuard op t x y (.int k a) (.int k b)).run P w= .ok () w:=by
  unfold eqGuard
  split<;>simp
 rcases hop with ⟨rfl,rfl⟩|⟨rfl,rfl⟩|⟨rfl,rfl⟩<;>simp only[execOp,ho,hx,hy,binOp,Op.intBits,Sem.run_bind,hg,Result.andThen_ok]<;>simp
theorem q9f{v:Value}(h:SRep D ν σ v (.f .nils)):v= .slice none 0 0:=by
 cases h with
 |f h=>cases h;rfl
theorem Vq{v u:Value}{o:Nat}(h:SRep D ν σ v (.hnd o))(hu:ν o=some u):v=u:=by
 cases h with
 |hnd _ v h _=>rw[hu] at h;cases h;rfl
theorem w72{v:Value}{T:S.C}{l:List (S.car T)}(h:SRep D ν σ v (.f (.sl T l))):RepF D σ v (.sl T l):=by
 cases h with
 |f h=>exact h
theorem j8x{k:FK}{a b:SV S}{u v:Value}{q:(p:Prop)×' Decidable p}(h:j5c k a b=some q)(ha:SRep D ν σ u a)(hb:SRep D ν σ v b):okV k u/\okV k v/\(q.1↔u=v):=by
 cases k with
 |int k=>
  simp only[j5c] at h
  split at h
  case h_2=>cases h
  rename_i k1 x k2 y
  obtain⟨hc,h'⟩:=z5s h
  clear h
  obtain⟨h1,h2⟩:=Qu hc
  have h1:k1=k:=by simpa using h1
  have h2:k2=k:=by simpa using h2
  subst h1 h2
  cases h'
  rw[Uf ha,Uf hb]
  exact⟨⟨_,rfl⟩,⟨_,rfl⟩,by simp⟩
 |bool=>
  simp only[j5c] at h
  split at h
  case h_2=>cases h
  rename_i x y hx hy
  cases h
  rw[j1e ha hx,j1e hb hy]
  exact⟨⟨_,rfl⟩,⟨_,rfl⟩,by simp⟩
 |str=>
  simp only[j5c] at h
  split at h
  case h_2=>cases h
  cases h
  rw[U8 ha,U8 hb]
  exact⟨⟨_,rfl⟩,⟨_,rfl⟩,by simp⟩
theorem j5e: ∀{ks:List FK} {l l':List (SV S)} {cs cs':List Value} {q:(p:Prop)×' Decidable p},q4a ks l l'=some q->cs.length=l.length->cs'.length=l'.length->(∀(j:Nat) v s,cs[j]? =some v->l[j]? =some s->SRep D ν σ v s)->
  (∀(j:Nat) v s,cs'[j]? =some v->l'[j]? =some s->SRep D ν σ v s)->Conf ks cs/\Conf ks cs'/\(q.1↔cs=cs')
 |[],l,l',cs,cs',q,h,_,_,_,_=>by simp[q4a] at h
 |[k],l,l',cs,cs',q,h,h1,h2,h3,h4=>by
  match l,l',h with
  |[a],[b],h=>
   match cs,cs',h1,h2 with
   |[u],[v],_,_=>
    obtain⟨x,y,z⟩:=j8x h (h3 0 u a rfl rfl) (h4 0 v b rfl rfl)
    refine⟨⟨rfl,fun i k' w hk hw=> ?_⟩,⟨rfl,fun i k' w hk hw=> ?_⟩,by rw[z];simp⟩
    ·cases i with
     |zero=>cases hk;cases hw;exact x
     |succ i=>simp at hk
    ·cases i with
     |zero=>cases hk;cases hw;exact y
     |succ i=>simp at hk
  |[],_,h=>simp[q4a] at h
  |[_],[],h=>simp[q4a] at h
  |_::_::_,[],h=>simp[q4a] at h
  |[_],_::_::_,h=>simp[q4a] at h
  |_::_::_,_::_,h=>simp[q4a] at h
 |k::k'::ks,l,l',cs,cs',q,h,h1,h2,h3,h4=>by
  match l,l',h with
  |[],_,h=>simp[q4a] at h
  |_::_,[],h=>simp[q4a] at h
  |a::l,b::l',h=>
   match cs,cs',h1,h2 with
   |u::cs,v::cs',h1,h2=>
    simp only[q4a] at h
    split at h
    case h_2=>cases h
    rename_i p d q' e hp hq
    cases h
    obtain⟨x,y,z⟩:=j8x hp (h3 0 u a rfl rfl) (h4 0 v b rfl rfl)
    obtain⟨x',y',z'⟩:=j5e hq (by simpa using h1) (by simpa using h2) (fun j v s hj hs=>h3 (j+1) v s (by simpa using hj) (by simpa using hs)) (fun j v s hj hs=>h4 (j+1) v s (by simpa using hj) (by simpa using hs))
    refine⟨⟨by have:=x'.1;simp at this⊢;exact this,fun i kk w hk hw=> ?_⟩,⟨by have:=y'.1;simp at this⊢;exact this,fun i kk w hk hw=> ?_⟩,?_⟩
    ·cases i with
     |zero=>cases hk;cases hw;exact x
     |succ i=>exact x'.2 i kk w (by simpa using hk) (by simpa using hw)
    ·cases i with
     |zero=>cases hk;cases hw;exact y
     |succ i=>exact y'.2 i kk w (by simpa using hk) (by simpa using hw)
    ·show p/\q'↔_
     rw[show (p↔u=v) from z,show (q'↔cs=cs') from z']
     simp
theorem w73{v:Value}{l:List (SV S)}(h:SRep D ν σ v (.agg l)): ∃cs:List Value,v= .agg cs.toArray/\cs.length=l.length/\ ∀(j:Nat) u s,cs[j]? =some u->l[j]? =some s->SRep D ν σ u s:=by
 cases h with
 |agg cs ss hl h h1=>exact⟨cs,rfl,hl,h⟩
theorem z4c{t:TypeId}{ms:Array (String×TypeId)}(hu:P.underlying t=some (.interface ms))(d:Nat)(w:World):(Op.equalIn (d+1) t .nilIface .nilIface).run P w= .ok true w:=by
 simp[Op.equalIn,Sem.run_bind,run_underlying hu]
theorem z4d{t:TypeId}{ms:Array (String×TypeId)}(hu:P.underlying t=some (.interface ms))(d:Nat)(w:World)(a:TypeId)(p:Value):(Op.equalIn (d+1) t (.iface a p) .nilIface).run P w= .ok false w:=by
 simp[Op.equalIn,Sem.run_bind,run_underlying hu]
theorem v5g{op:BinOp}{t u:TypeId}{x y:Operand}(hD:D.Ok)(k:Kn D ν σ n f w e ob lkc oh)(h:Jb P D e ob lkc (.binOp op t x y u) K):R1 P D ν σ ob oh (ev n f) (.binOp op t x y u) K:=by
 suffices hs:w71 P D ν σ (ev n f) (.binOp op t x y u) (K []) by
  obtain⟨s,v,h1,h2,h3⟩:=hs
  exact⟨[],s,v,h1,h2,fun w oo ho _ _=>h3 w oo ho⟩
 simp only[Jb] at h
 have kx:=k.e x
 have ky:=k.e y
 split at h
 ·split at h
  case h_2=>exact h.elim
  rename_i b ms hx hu
  rw[hx] at kx
  have hi:(ev n f x= .nilIface/\b=true)∨(∃t' p,ev n f x= .iface t' p/\b=false):=by
   generalize ev n f x=u at kx
   cases kx with
   |f hf=>
    cases hf with
    |ifcN=>exact .inl ⟨rfl,rfl⟩
    |ifcS t' p=>exact .inr ⟨t',p,rfl,rfl⟩
  have hy:ev n f (.const .nilIface)= .nilIface:=rfl
  split at h
  ·refine⟨_,_,h,.f (.bool _),fun w oo ho=> ?_⟩
   rcases hi with ⟨h1,rfl⟩|⟨t',p,h1,rfl⟩<;>simp[execOp,ho,h1,hy,eqGuard,binOp,Op.equal,Op.maxDepth,z4c hu 9999,z4d hu 9999]
  ·refine⟨_,_,h,.f (.bool _),fun w oo ho=> ?_⟩
   rcases hi with ⟨h1,rfl⟩|⟨t',p,h1,rfl⟩<;>simp[execOp,ho,h1,hy,eqGuard,binOp,Op.equal,Op.maxDepth,z4c hu 9999,z4d hu 9999]
  ·exact h.elim
 unfold binS at h
 split at h
 ·rename_i k1 a k2 b hx hy
  have hx':=Uf (hx▸kx)
  have hy':=Uf (hy▸ky)
  split at h
  ·exact w37 hx' hy' (.inl ⟨rfl,rfl⟩) h.1 h.2
  ·exact w37 hx' hy' (.inr ⟨rfl,rfl⟩) h.1 h.2
  ·obtain⟨hk,h⟩:=Jc h
   exact w1i hx' hy' hk (.inl ⟨rfl,rfl⟩) h
  ·obtain⟨hk,h⟩:=Jc h
   exact w1i hx' hy' hk (.inr (.inl ⟨rfl,rfl⟩)) h
  ·obtain⟨hk,h⟩:=Jc h
   exact w1i hx' hy' hk (.inr (.inr ⟨rfl,rfl⟩)) h
  ·obtain⟨hk,h2⟩:=Jc h
   have hk':k1=k2:=by simpa using hk
   clear h
   subst hk'
   exact v5e hx' hy' h2
 ·rename_i a b hx hy
  exact v5f (U8 (hx▸kx)) (U8 (hy▸ky)) h
 ·rename_i T l hx hy
  have hr:=w72 (hx▸kx)
  have hy':ev n f y= .slice none 0 0:=q9f (hy▸ky)
  obtain⟨a,cap,hv,_,_,hel⟩:=hr.toRSl hD
  have hnil:a.isNone=true->l=[]:=fun ha=>by
   cases l with
   |nil=>rfl
   |cons z l=>
    obtain⟨ad,_,ha',_⟩:=hel 0 z rfl
    subst ha';cases ha
  split at h
  case h_2=>exact h.elim
  rename_i el hu
  split at h
  ·exact⟨_,_,h a.isNone hnil,.f (.bool _),fun w oo ho=>by
    simp[execOp,ho,hv,hy',eqGuard,binOp,Op.equal,Op.maxDepth,Lib.run_equalIn_slice_nil w 9999 t el a l.length cap 0 0 hu]⟩
  ·exact⟨_,_,h (!a.isNone) (fun ha=>hnil (by simpa using ha)),.f (.bool _),fun w oo ho=>by
    simp[execOp,ho,hv,hy',eqGuard,binOp,Op.equal,Op.maxDepth,Lib.run_equalIn_slice_nil w 9999 t el a l.length cap 0 0 hu]⟩
  ·exact h.elim
 ·rename_i o off hx hy
  split at h
  case h_2=>exact h.elim
  rename_i el hu
  have kx':SRep D ν σ (ev n f x) (.ref o off):=hx▸kx
  have ky':SRep D ν σ (ev n f y) (.f .nilp):=hy▸ky
  have hu':P.underlying t=some (.pointer (P.pointee t)):=by rw[hu];simp[Program.pointee,hu]
  obtain⟨a,hv⟩: ∃a,ev n f x= .pointer (some a):=by
   generalize ev n f x=u at kx'
   cases kx' with
   |ref _ _ b _=>exact⟨_,rfl⟩
  have hv':ev n f y= .pointer none:=by
   generalize ev n f y=u at ky'
   cases ky' with
   |f hf=>cases hf;rfl
  split at h
  ·exact⟨_,_,h,.lit false,fun w oo ho=>by
    simp[execOp,ho,hv,hv',eqGuard,binOp,Op.equal,Op.maxDepth,run_equalIn_pointer_nil w 9999 t (some a) hu']⟩
  ·exact⟨_,_,h,.lit true,fun w oo ho=>by
    simp[execOp,ho,hv,hv',eqGuard,binOp,Op.equal,Op.maxDepth,run_equalIn_pointer_nil w 9999 t (some a) hu']⟩
  ·exact h.elim
 ·rename_i l l' hx hy
  split at h
  case h_2=>exact h.elim
  rename_i ks hq
  obtain⟨hg,h⟩:=Jc h
  obtain⟨q,hc,h⟩:=Qf h
  have kx':SRep D ν σ (ev n f x) (.agg l):=hx▸kx
  have ky':SRep D ν σ (ev n f y) (.agg l'):=hy▸ky
  obtain⟨cs,hv,h1,h2⟩:=w73 kx'
  obtain⟨cs',hv',h1',h2'⟩:=w73 ky'
  obtain⟨c1,c2,hiff⟩:=j5e hc h1 h1' h2 h2'
  have hg':P.eqGuardType P.depth t=false:=by simpa using hg
  have run: ∀w,(Op.equalIn 10000 t (.agg cs.toArray) (.agg cs'.toArray)).run P w= .ok (@decide q.1 q.2) w:=by
   intro w
   obtain⟨r,hr,hi⟩:=w7y hq c1 c2 9998 w
   rw[hr]
   have:r= @decide q.1 q.2:=by
    cases r with
    |true=>exact (@decide_eq_true _ q.2 (hiff.2 (hi.1 rfl))).symm
    |false=>exact (@decide_eq_false _ q.2 fun hp=>absurd (hi.2 (hiff.1 hp)) (by simp)).symm
   rw[this]
  split at h
  ·exact⟨_,_,h,.pb _ _,fun w oo ho=>by
    simp[execOp,ho,hv,hv',run_eqGuard_agg w .eql t x y _ _ hg',run_eql_struct,run w]⟩
  ·exact⟨_,_,h,.pbn _ _,fun w oo ho=>by
    simp[execOp,ho,hv,hv',run_eqGuard_agg w .neq t x y _ _ hg',run_neq_struct,run w]⟩
  ·exact h.elim
 ·split at h
  case h_2=>exact h.elim
  rename_i a b hu ha hb
  have hx':=j1e kx ha
  have hy':=j1e ky hb
  split at h
  ·exact⟨_,_,h,.pb _ _,fun w oo ho=>by
    simp[execOp,ho,hx',hy',eqGuard,run_eql_bool _ _ _ _ hu]
    cases a<;>cases b<;>rfl⟩
  ·exact⟨_,_,h,.pbn _ _,fun w oo ho=>by
    simp[execOp,ho,hx',hy',eqGuard,run_neq_bool _ _ _ _ hu]
    cases a<;>cases b<;>rfl⟩
  ·exact h.elim
theorem y0q{t:TypeId}{x:Operand}(k:Kn D ν σ n f w e ob lkc oh)(h:Jb P D e ob lkc (.unOp .not t x) K):R1 P D ν σ ob oh (ev n f) (.unOp .not t x) K:=by
 simp only[Jb] at h
 have hx:=k.e x
 generalize hvx:ev n f x=vx at hx
 generalize e x=sx at h hx
 cases hx with
 |lit b=>exact⟨_,_,_,h,.lit _,fun w oo ho _ _=>by simp[execOp,ho,hvx,Op.unary]⟩
 |f hf=>
  cases hf with
  |bool b=>exact⟨_,_,_,h,.pbn _ _,fun w oo ho _ _=>by cases b<;>simp[execOp,ho,hvx,Op.unary]⟩
  |_=>exact h.elim
 |pb p d=>exact⟨_,_,_,h,.pbn _ _,fun w oo ho _ _=>by simp[execOp,ho,hvx,Op.unary]⟩
 |pbn p d=>exact⟨_,_,_,h,.pb _ _,fun w oo ho _ _=>by simp[execOp,ho,hvx,Op.unary]⟩
 |_=>exact h.elim
theorem y0r{t:TypeId}{x:Operand}(k:Kn D ν σ n f w e ob lkc oh)(h:Jb P D e ob lkc (.unOp .neg t x) K):R1 P D ν σ ob oh (ev n f) (.unOp .neg t x) K:=by
 simp only[Jb] at h
 split at h
 case h_2=>exact h.elim
 rename_i kd a hx
 obtain⟨r,hK,hr⟩:=z20 h
 exact⟨_,_,_,hK,.f (.int kd r),fun w oo ho _ _=>by simp only[execOp,ho,Uf (hx▸k.e x),Op.unary,Op.intArith,hr];rfl⟩
theorem w74{s d:TypeId}{x:Operand}(hP:D.OkP P)(k:Kn D ν σ n f w e ob lkc oh)(h:Jb P D e ob lkc (.convert s d x) K):R1 P D ν σ ob oh (ev n f) (.convert s d x) K:=by
 simp only[Jb] at h
 split at h
 ·rename_i k1 a k2 k' hx h1 h2
  obtain⟨r,hK,hr⟩:=z20 h
  refine⟨_,_,_,hK,.f (.int k' r),fun w oo ho _ _=> ?_⟩
  subst hr
  simp[execOp,ho,Uf (hx▸k.e x),convert,run_underlying h1,run_underlying h2,Conv.intToInt]
 ·rename_i a hx h1 h2
  exact⟨_,_,_,h,.f (.str a),fun w oo ho _ _=>by simp[execOp,ho,U8 (hx▸k.e x),convert,run_underlying h1,run_underlying h2]⟩
 ·rename_i k1 a k2 hx h1 h2
  exact⟨_,_,_,h,.f (.str _),fun w oo ho _ _=>by simp[execOp,ho,Uf (hx▸k.e x),convert,run_underlying h1,run_underlying h2,Conv.intToString]⟩
 ·rename_i o el hx h1 h2
  split at h
  case h_2=>exact h.elim
  rename_i T g ety T' l h3 hb hob
  obtain⟨e1,h⟩:=Bu h
  subst e1
  obtain⟨hs1,hg⟩:=hP.unb _ _ hb
  obtain⟨ns,hnl,hns,hgl⟩:=hg l
  have hR:=(k.o o _ hob).1
  obtain⟨v,xs,hν,hh,hE,hl⟩:=hR
  have hxv:=Vq (hx▸k.e x) hν
  rw[hgl] at h
  refine⟨_,_,.string (strOfNums ns),h,.f (.str _),fun w oo ho _ hok=> ?_⟩
  have hok:(vec v ety (D.size T') l.length xs).ok w:=hh▸hok o (by simp) _ hob
  have hrun:(convert s d v).run P w= .ok (.string (strOfNums ns)) w:=by
   rcases (Hg hok).2 with ⟨rfl,h0⟩|⟨b,cap,rfl,_⟩
   ·have:ns=[]:=List.eq_nil_of_length_eq_zero (by omega)
    subst this
    exact run_convert_bytes_nil w s el h1 h3 0 0 d h2
   ·have hrow:=z4p hok
    refine run_convert_bytes_arg w s el h1 h3 b 0 l.length cap ns hnl (fun i hi=> ?_) d h2
    have hx':l[i]? =some l[i]:=List.getElem?_eq_getElem hi
    have hr:=hE.2 i _ hx'
    rw[hns i _ hx',hs1,Nat.mul_one] at hr
    have hlen:=hE.1
    rw[hs1,Nat.mul_one] at hlen
    obtain⟨u0,hxi⟩: ∃u0,xs[i]? =some u0:=⟨_,List.getElem?_eq_getElem (by omega)⟩
    have h0:=hr.2 0 u0 (.int .u8 (ns.getD i 0)) (by rw[List.getElem?_take,if_pos (by decide),List.getElem?_drop,Nat.add_zero];exact hxi) rfl
    have hc:=hrow i _ hxi
    rw[Jf] at hc
    rw[hc]
    cases h0
    rfl
  simp only[execOp,ho,hxv,Sem.run_bind,hrun,Result.andThen_ok]
  rfl
 ·exact h.elim
theorem Hi{v:Value}{s:SV S}{l:List (SV S)}(hs:SRep D ν σ v s)(h:z1e s=some l):RowS D ν σ v.cells.toList l:=by
 have one: ∀{v:Value} {s:SV S},SRep D ν σ v s->v.cells= #[v]->v.oneCell'=true->RowS D ν σ v.cells.toList [s]:=by
  intro v s hs hc h1
  rw[hc]
  refine⟨rfl,fun j u t hj ht=> ?_,fun u hu=> ?_⟩
  ·cases j with
   |zero=>cases hj;cases ht;exact hs
   |succ j=>cases hj
  ·simp at hu;subst hu;exact h1
 cases hs with
 |f hf=>cases h;exact one (.f hf) hf.cells hf.one
 |lit b=>cases h;exact one (.lit b) rfl rfl
 |pb p d=>cases h;exact one (.pb p d) rfl rfl
 |pbn p d=>cases h;exact one (.pbn p d) rfl rfl
 |agg cs ss hl h' h1=>cases h;exact⟨hl,h',h1⟩
 |tup=>cases h
 |arr=>cases h
 |ref o off b hν=>cases h;exact one (.ref o off b hν) rfl rfl
 |eref T o i off b m cap hν hi=>cases h;exact one (.eref T o i off b m cap hν hi) rfl rfl
 |aref T N o i off b hν hi=>cases h;exact one (.aref T N o i off b hν hi) rfl rfl
 |fptr ad cs l off hr hR=>cases h;exact one (.fptr ad cs l off hr hR) rfl rfl
 |fap ad cs T N l hN hr hl hR=>cases h;exact one (.fap ad cs T N l hN hr hl hR) rfl rfl
 |hnd o v hν h1=>
  cases h
  refine one (.hnd o _ hν h1) ?_ h1
  cases v<;>first|rfl|cases h1
 |cut o sz lo hi a len cap hν h0 hc=>cases h;exact one (.cut o sz lo hi a len cap hν h0 hc) rfl rfl
 |fn g a b first cap h1 h2 h3 h4=>cases h;exact one (.fn g a b first cap h1 h2 h3 h4) rfl rfl
 |und=>cases h
 |dead=>cases h
theorem j1f{cs vs:List Value}{l ss:List (SV S)}{off:Nat}(h:RowS D ν σ cs l)(k:RowS D ν σ vs ss)(hle:off+ss.length<=l.length):
  RowS D ν σ (cs.take off++vs++cs.drop (off+vs.length)) (l.take off++ss++l.drop (off+ss.length)):=by
 have e1:=h.1
 have e2:=k.1
 refine⟨by simp only[List.length_append,List.length_take,List.length_drop];omega,fun j v s hj hs=> ?_,fun v hv=> ?_⟩
 ·have t1:(cs.take off).length=off:=by rw[List.length_take];omega
  have t2:(l.take off).length=off:=by rw[List.length_take];omega
  rw[List.append_assoc] at hj hs
  rcases Nat.lt_or_ge j off with hlt|hge
  ·rw[List.getElem?_append_left (by omega)] at hj hs
   rw[List.getElem?_take_of_lt hlt] at hj hs
   exact h.2.1 j v s hj hs
  ·rw[List.getElem?_append_right (by omega)] at hj hs
   rw[t1] at hj;rw[t2] at hs
   rcases Nat.lt_or_ge (j - off) ss.length with hlt|hge'
   ·rw[List.getElem?_append_left (by omega)] at hj hs
    exact k.2.1 _ v s hj hs
   ·rw[List.getElem?_append_right (by omega)] at hj hs
    rw[List.getElem?_drop] at hj hs
    have e3:off+vs.length+(j - off - vs.length)=off+ss.length+(j - off - ss.length):=by omega
    rw[e3] at hj
    exact h.2.1 _ v s hj hs
 ·rcases List.mem_append.1 hv with hv|hv
  ·rcases List.mem_append.1 hv with hv|hv
   ·exact h.2.2 v (List.mem_of_mem_take hv)
   ·exact k.2.2 v hv
  ·exact h.2.2 v (List.mem_of_mem_drop hv)
theorem j1g(vs:List Value): ∀(cs:List Value) (off:Nat),off+vs.length<=cs.length->
  ((vs.zipIdx).foldl (fun (a:Array Value) (q:Value×Nat)=>a.setIfInBounds (off+q.2) q.1) cs.toArray)=(cs.take off++vs++cs.drop (off+vs.length)).toArray:=by
 suffices H: ∀(vs:List Value) (k:Nat) (cs:List Value) (off:Nat),off+k+vs.length<=cs.length->
   ((vs.zipIdx k).foldl (fun (a:Array Value) (q:Value×Nat)=>a.setIfInBounds (off+q.2) q.1) cs.toArray)=(cs.take (off+k)++vs++cs.drop (off+k+vs.length)).toArray by
  intro cs off h
  simpa using H vs 0 cs off (by omega)
 intro vs
 induction vs with
 |nil=>intro k cs off h;simp
 |cons v vs ih=>
  intro k cs off h
  simp only[List.length_cons] at h
  rw[List.zipIdx_cons,List.foldl_cons]
  have e1:(cs.toArray.setIfInBounds (off+k) v)=(cs.set (off+k) v).toArray:=by simp
  rw[e1,ih (k+1) (cs.set (off+k) v) off (by simp;omega)]
  congr 1
  have hlt:off+k<cs.length:=by omega
  have e2:(cs.set (off+k) v).take (off+(k+1))=cs.take (off+k)++[v]:=by
   rw[←Nat.add_assoc,List.take_add_one,List.take_set_of_le (Nat.le_refl _)]
   simp[hlt]
  have e3:(cs.set (off+k) v).drop (off+(k+1)+vs.length)=cs.drop (off+k+(v::vs).length):=by
   rw[List.drop_set_of_lt (by omega)]
   congr 1
   simp;omega
  rw[e2,e3]
  simp
theorem w75{place:Nat->Option (Nat×Nat)}{r:Operand->Value}(hr: ∀x,SRep D ν σ (r x) (e x)): ∀(parts:List (Nat×Operand)) (cs:List Value) (l l':List (SV S)),RowS D ν σ cs l->
  w7w place l (parts.map fun q=>(q.1,e q.2))=some l'-> ∃cs',RowS D ν σ cs' l'/\Instr.fill place cs.toArray (parts.map fun q=>(q.1,r q.2))=some cs'.toArray:=by
 intro parts
 induction parts with
 |nil=>intro cs l l' h hf;cases hf;exact⟨cs,h,rfl⟩
 |cons q parts ih=>
  intro cs l l' h hf
  simp only[List.map_cons,w7w] at hf
  split at hf
  ·rename_i off k ss hp hc
   have hc':=Hi (hr q.2) hc
   cases hb:(Nat.beq ss.length k && Nat.ble (off+k) l.length) with
   |false=>rw[hb] at hf;cases hf
   |true=>
    rw[hb] at hf
    obtain⟨h1,h2⟩:=Qu hb
    have h1:=Nat.eq_of_beq_eq_true h1
    have h2:=Nat.le_of_ble_eq_true h2
    subst h1
    have hs:=j1f h hc' h2
    obtain⟨cs',hr',hf'⟩:=ih _ _ _ hs hf
    refine⟨cs',hr',?_⟩
    have el:=hc'.1
    have el2:=h.1
    rw[List.map_cons,Instr.fill]
    simp only[hp]
    rw[if_neg (by simp only[Bool.or_eq_true,decide_eq_true_eq,ne_eq,List.size_toArray];rw[←Array.length_toList,el];omega)]
    have:=j1g (r q.2).cells.toList cs off (by rw[el,el2];exact h2)
    rw[el] at this
    rw[←hf']
    congr 1
    rw[el,←this,←Array.foldl_toList,Array.toList_zipIdx]
  ·cases hf
theorem j0k{cs:List Value}(h:cs.all isZ=true):RowS D ν σ cs (cs.map fun v=>SV.f (j5b v)):=by
 have key: ∀v,isZ v=true->RepF D σ v (j5b v):=by
  intro v hv
  unfold isZ at hv
  split at hv
  ·exact .bool _
  ·exact .int _ _
  ·exact .str _
  ·exact .nils
  ·exact .nilp
  ·exact .nilm
  ·exact .nilf
  ·cases hv
 refine⟨by simp,fun j v s hj hs=> ?_,fun v hv=> ?_⟩
 ·rw[List.getElem?_map,hj] at hs
  cases hs
  exact .f (key v ((List.all_eq_true.1 h) v (List.mem_of_getElem? hj)))
 ·exact (key v ((List.all_eq_true.1 h) v hv)).one
theorem v8g{ob:Nat->Option (AO S)}{lkc:Nat->Nat->SV S}{oh:Nat->HObj}{e:Operand->SV S}{o:Op}{K':SV S->Prop}(k:Kn D ν σ n f w e ob lkc oh)(h:wrpS e o K'):R1 P D ν σ ob oh (ev n f) o fun _ s=>K' s:=by
 unfold wrpS at h
 split at h
 case h_2=>exact h.elim
 rename_i op t x y u
 have kx:=k.e x
 have ky:=k.e y
 split at h
 case h_2=>exact h.elim
 rename_i k1 a k2 b hx hy
 have hx':=Uf (hx▸kx)
 have hy':=Uf (hy▸ky)
 obtain⟨hk,h2⟩:=Jc h
 have hk':k1=k2:=by simpa using hk
 clear h
 subst hk'
 have run: ∀(w:World) (oo:Oper) (v:Value),oo.op= .binOp op t x y u->(binOp op t (.int k1 a) (.int k1 b)).run P w= .ok v w->(execOp (ev n f) oo).run P w= .ok (.value v) w:=by
  intro w oo v ho hr
  have hg:(eqGuard op t x y (.int k1 a) (.int k1 b)).run P w= .ok () w:=by
   unfold eqGuard
   split<;>simp
  simp[execOp,ho,hx',hy',hg,hr]
 split at h2
 ·exact⟨[],_,_,h2,.f (.int k1 _),fun w oo ho _ _=>run w oo _ ho (by simp[binOp,Op.intArith])⟩
 ·exact⟨[],_,_,h2,.f (.int k1 _),fun w oo ho _ _=>run w oo _ ho (by simp[binOp,Op.intArith])⟩
 ·exact⟨[],_,_,h2,.f (.int k1 _),fun w oo ho _ _=>run w oo _ ho (by simp[binOp,Op.intArith])⟩
 ·exact h2.elim
end Go.Fx
end
noncomputable section
set_option maxRecDepth 100000
namespace Go.Fx
open Go Go.RowKit Go.Fl Go.Fl.Lk
variable {S:Sig}{P:Program}{D:Shp S}{ν:Nm}{σ:Hv}{n:Nat}{f:Fr}
variable {w:World}{e:Operand->SV S}{ob:Nat->Option (AO S)}{lkc:Nat->Nat->SV S}{oh:Nat->HObj}{K:List Nat->SV S->Prop}
theorem w1j{fs:Array Field}(hT:fs.toList.all (fun f=>hasT P f.type)=true)(w:World):
  (fs.mapM fun f=>(do pure (f.offset,←sizeOf f.type):Sem (Nat×Nat))).run P w= .ok (fs.map fun f=>(f.offset,szQ P f.type)) w:=by
 have key: ∀(l:List Field) (w:World),l.all (fun f=>hasT P f.type)=true->(l.mapM fun f=>(do pure (f.offset,←sizeOf f.type):Sem (Nat×Nat))).run P w= .ok (l.map fun f=>(f.offset,szQ P f.type)) w:=by
  intro l
  induction l with
  |nil=>intro w _;rfl
  |cons x l ih=>
   intro w h
   obtain⟨h1,h2⟩:hasT P x.type=true/\l.all (fun f=>hasT P f.type)=true:=by simpa using h
   rw[List.mapM_cons]
   simp only[Sem.run_bind,Vg h1,Result.andThen_ok,Sem.run_pure,ih w h2,List.map_cons]
 have:=key fs.toList w hT
 rw[Array.mapM_eq_mapM_toList,map_eq_pure_bind]
 simp only[Sem.run_bind,this,Result.andThen_ok,Sem.run_pure]
 congr 1
 apply Array.ext'
 simp
theorem v5h{t:TypeId}{parts:Array (Nat×Operand)}(k:Kn D ν σ n f w e ob lkc oh)(h:Jb P D e ob lkc (.build t parts) K):R1 P D ν σ ob oh (ev n f) (.build t parts) K:=by
 have zr: ∀{z:Value},(P.info? t).bind (·.zero)=some z-> ∀w,(zeroValue t).run P w= .ok z w:=by
  intro z hz w
  obtain⟨i,hi,hz⟩:=Option.bind_eq_some_iff.1 hz
  simp[zeroValue,typeInfo,hi,hz]
 have hparts:(parts.map fun (i,x)=>(i,ev n f x)).toList=parts.toList.map fun q=>(q.1,ev n f q.2):=by simp
 simp only[Jb] at h
 split at h
 ·rename_i fs z hu hz
  obtain⟨hc,h⟩:=Jc h
  obtain⟨hz1,hT⟩:=Qu hc
  obtain⟨l,hf,hK⟩:=Qf h
  obtain⟨cs',hr,hfill⟩:=w75 (D:=D) (ν:=ν) (σ:=σ) (r:=ev n f) k.e parts.toList _ _ _ (j0k hz1) hf
  refine⟨_,_,.agg cs'.toArray,hK,.agg cs' l hr.1 hr.2.1 hr.2.2,fun w oo ho _ _=> ?_⟩
  have hpl:(fun (i:Nat)=>(fs.map fun f=>(f.offset,szQ P f.type))[i]?)=fun i=>(fs[i]?).map fun f=>(f.offset,szQ P f.type):=by
   funext i;simp
  simp only[execOp,ho,Instr.build,Sem.run_bind,zr hz,Result.andThen_ok,run_underlying hu,w1j hT,hparts,hpl]
  rw[Array.toArray_toList] at hfill
  rw[hfill]
  rfl
 ·rename_i len el z hu hz
  obtain⟨hc,h⟩:=Jc h
  obtain⟨hz1,hT⟩:=Qu hc
  obtain⟨l,hf,hK⟩:=Qf h
  obtain⟨cs',hr,hfill⟩:=w75 (D:=D) (ν:=ν) (σ:=σ) (r:=ev n f) k.e parts.toList _ _ _ (j0k hz1) hf
  refine⟨_,_,.agg cs'.toArray,hK,.agg cs' l hr.1 hr.2.1 hr.2.2,fun w oo ho _ _=> ?_⟩
  simp only[execOp,ho,Instr.build,Sem.run_bind,zr hz,Result.andThen_ok,run_underlying hu,Vg hT,hparts]
  rw[Array.toArray_toList] at hfill
  rw[hfill]
  rfl
 ·exact h.elim
theorem v5i{t:TypeId}{x j:Operand}(hD:D.Ok)(k:Kn D ν σ n f w e ob lkc oh)(h:Jb P D e ob lkc (.index t x j) K):R1 P D ν σ ob oh (ev n f) (.index t x j) K:=by
 simp only[Jb] at h
 split at h
 case h_2=>exact h.elim
 rename_i i hj
 have hj':=Uf (hj▸k.e j)
 split at h
 ·rename_i len el T N l hu hx
  obtain⟨hc,⟨h0,h1⟩,h⟩:=Jc h
  obtain⟨hc,hN⟩:=Qu hc
  obtain⟨hc,hsz⟩:=Qu hc
  obtain⟨hT,hA⟩:=Qu hc
  have hA:aggQ P el=false:=by simpa using hA
  have hN:=Nat.eq_of_beq_eq_true hN
  have hsz:=Nat.eq_of_beq_eq_true hsz
  have hr:=hx▸k.e x
  generalize hvx:ev n f x=vx at hr
  cases hr with
  |arr cs _ _ _ hN' hl hrow=>
   obtain⟨y,hy⟩:=getq (l:=l) (k:=i.toNat) (by omega)
   obtain⟨s,hs,hK⟩:=Qf (h y hy)
   obtain⟨v,hv,_,hp⟩:=z88 (D:=D) (ν:=ν) ((hrow _ y hy).toS) hs
   refine⟨_,_,v,hK,hv,fun w oo ho _ _=> ?_⟩
   have hlt:i.toNat*D.size T<cs.length:=by
    rw[hl]
    have:i.toNat<l.length:=by omega
    have h2:(i.toNat+1)*D.size T<=l.length*D.size T:=Nat.mul_le_mul_right _ this
    rw[Nat.add_mul,Nat.one_mul] at h2
    have:=hD.pos T
    omega
   have hpart:(part el cs.toArray (i.toNat*szQ P el)).run P w= .ok v w:=by
    have:=hp w
    simp only[part,Sem.run_bind,q69 hT,Result.andThen_ok,hA,Bool.false_eq_true,if_false] at this⊢
    have e1:cs.toArray[i.toNat*szQ P el]? =((cs.drop (i.toNat*D.size T)).take (D.size T)).toArray[0]? :=by
     rw[hsz]
     simp only[List.getElem?_toArray]
     rw[List.getElem?_take,if_pos (hD.pos T)]
     simp
    rw[e1];exact this
   have hb:0<=i/\i<(len:Int):=⟨h0,h1⟩
   simp only[execOp,ho,hvx,hj',Instr.index,asIntOf,Sem.run_bind,Sem.run_pure,Result.andThen_ok,run_underlying hu,if_pos hb,Vg hT,hpart]
 ·rename_i s hu hx
  obtain⟨⟨h0,h1⟩,h⟩:=h
  have hlt:i.toNat<s.size:=by omega
  obtain⟨b,hb⟩: ∃b,s[i.toNat]? =some b:=⟨s[i.toNat],by simp[hlt]⟩
  refine⟨_,_,_,h b hb,.f (.int .u8 _),fun w oo ho _ _=> ?_⟩
  simp[execOp,ho,U8 (hx▸k.e x),hj',Instr.index,asIntOf,run_underlying hu,h0,hb]
 ·exact h.elim
theorem v1y{o:Nat}{v:Value}{a:AO S}{ety:TypeId}{T:S.C}{l:List (S.car T)}(k:Kn D ν σ n f w e ob lkc oh)(hν:ν o=some v)(ho:ob o=some a)(ha:a= .vec ety T l): ∃ad cap,v= .slice ad l.length cap/\l.length<=140737488355328:=by
 subst ha
 obtain⟨hR,hok⟩:=k.o o _ ho
 obtain⟨v',xs,hν',hh,hE,hb⟩:=hR
 rw[hν] at hν';cases hν'
 rw[hh] at hok
 obtain⟨a,cap,hv⟩:=z1c hok
 exact⟨a,cap,hv,hb⟩
theorem y0s{args:Array Operand}{ts:Array TypeId}(hD:D.Ok)(k:Kn D ν σ n f w e ob lkc oh)(h:Jb P D e ob lkc (.call ⟨.builtin .len,args,ts⟩) K):R1 P D ν σ ob oh (ev n f) (.call ⟨.builtin .len,args,ts⟩) K:=by
 simp only[Jb] at h
 split at h
 case h_2=>exact h.elim
 rename_i x t ha ht
 have ha':args= #[x]:=by apply Array.ext';simpa using ha
 have ht':ts= #[t]:=by apply Array.ext';simpa using ht
 subst ha' ht'
 have runS: ∀(el:TypeId) (a:Option Addr) (len cap:Nat),P.underlying t=some (.slice el)->ev n f x= .slice a len cap-> ∀(w:World) (oo:Oper),oo.op= .call ⟨.builtin .len,#[x],#[t]⟩->(execOp (ev n f) oo).run P w= .ok (.value (.int .i64 ((len:Nat):Int))) w:=by
  intro el a len cap hu hv w oo ho
  simp[execOp,ho,hv,resolve,invoke,builtin,Builtin.len_,run_underlying hu,goInt]
 have runT: ∀(s:ByteArray),P.underlying t=some .string->ev n f x= .string s-> ∀(w:World) (oo:Oper),oo.op= .call ⟨.builtin .len,#[x],#[t]⟩->(execOp (ev n f) oo).run P w= .ok (.value (.int .i64 ((s.size:Nat):Int))) w:=by
  intro s hu hv w oo ho
  simp[execOp,ho,hv,resolve,invoke,builtin,Builtin.len_,run_underlying hu,goInt]
 have hx:=k.e x
 split at h
 ·rename_i el hu
  generalize hvx:ev n f x=vx at hx
  generalize e x=sx at h hx
  cases hx with
  |f hf=>
   cases hf with
   |sl T l a cap c h1 h2 h3 h4=>exact⟨_,_,_,h (by omega),.f (.int _ _),fun w oo ho _ _=>runS el a _ cap hu hvx w oo ho⟩
   |nils=>exact⟨_,_,_,h,.f (.int _ _),fun w oo ho _ _=>runS el none 0 0 hu hvx w oo ho⟩
   |_=>exact h.elim
  |hnd o v hν h1=>
   simp only[lenS] at h
   cases ho:ob o with
   |none=>rw[ho] at h;exact h.elim
   |some a=>
    rw[ho] at h
    cases a with
    |vec ety T l=>
     obtain⟨ad,cap,hv,hb⟩:=v1y k hν ho rfl
     exact⟨_,_,_,h (by omega),.f (.int _ _),fun w oo hoo _ _=>runS el ad _ cap hu (hvx.trans hv) w oo hoo⟩
    |frz T l=>
     obtain⟨hR,_⟩:=k.o o _ ho
     obtain⟨v',hν',_,hr⟩:=hR
     rw[hν] at hν';cases hν'
     obtain⟨ad,cap,hv,h1,h2,_⟩:=hr.toRSl hD
     exact⟨_,_,_,h (by omega),.f (.int _ _),fun w oo hoo _ _=>runS el ad _ cap hu (hvx.trans hv) w oo hoo⟩
    |_=>exact h.elim
  |_=>exact h.elim
 ·rename_i hu
  split at h
  ·rename_i s hs
   exact⟨_,_,_,h,.f (.int _ _),fun w oo ho _ _=>runT s hu (U8 (hs▸hx)) w oo ho⟩
  ·exact h.elim
 ·exact h.elim
theorem w76(a b:ByteArray)(w:World):(Op.stringOp .leq a b).run P w= .ok (.bool (!decide (blt b a))) w:=by
 have lt:Op.bytesLess a.toList b.toList=decide (blt a b):=j6g a b
 have:=w1d a b
 simp only[Op.stringOp,lt,z1b]
 rw[show (decide (blt a b)||decide (a=b))= !decide (blt b a) by rw[←this];simp]
 rfl
theorem w77(a b:ByteArray)(w:World):(Op.stringOp .geq a b).run P w= .ok (.bool (!decide (blt a b))) w:=by
 have lt:Op.bytesLess a.toList b.toList=decide (blt a b):=j6g a b
 simp only[Op.stringOp,lt]
 rfl
theorem y0t{args:Array Operand}{ts:Array TypeId}(k:Kn D ν σ n f w e ob lkc oh)(h:Jb P D e ob lkc (.call ⟨.builtin .min,args,ts⟩) K):R1 P D ν σ ob oh (ev n f) (.call ⟨.builtin .min,args,ts⟩) K:=by
 have hm: ∀a b:Int,min a b=(if b<a then b else a):=by intro a b;omega
 simp only[Jb] at h
 split at h
 ·rename_i x y ha
  have ha':args= #[x,y]:=by apply Array.ext';simpa using ha
  subst ha'
  split at h
  case h_3=>exact h.elim
  ·rename_i k1 a k2 b hx hy
   obtain⟨hk,h⟩:=Jc h
   exact⟨_,_,_,h,.f (.int _ _),fun w oo ho _ _=>by simp[execOp,ho,Uf (hx▸k.e x),Uf (hy▸k.e y),resolve,invoke,builtin,Builtin.min_,Builtin.min2,hm]⟩
  ·rename_i a b hx hy
   by_cases hb:blt b a
   ·exact⟨_,_,_,h.1 hb,.f (.str _),fun w oo ho _ _=>by simp[execOp,ho,U8 (hx▸k.e x),U8 (hy▸k.e y),resolve,invoke,builtin,Builtin.min_,Builtin.min2,w76,hb,asBool]⟩
   ·exact⟨_,_,_,h.2 hb,.f (.str _),fun w oo ho _ _=>by simp[execOp,ho,U8 (hx▸k.e x),U8 (hy▸k.e y),resolve,invoke,builtin,Builtin.min_,Builtin.min2,w76,hb,asBool]⟩
 ·rename_i x y z ha
  have ha':args= #[x,y,z]:=by apply Array.ext';simpa using ha
  subst ha'
  split at h
  case h_2=>exact h.elim
  rename_i k1 a k2 b k3 c hx hy hz
  obtain⟨hk,h⟩:=Jc h
  exact⟨_,_,_,h,.f (.int _ _),fun w oo ho _ _=>by simp[execOp,ho,Uf (hx▸k.e x),Uf (hy▸k.e y),Uf (hz▸k.e z),resolve,invoke,builtin,Builtin.min_,Builtin.min2,hm]⟩
 ·exact h.elim
theorem y0u{args:Array Operand}{ts:Array TypeId}(k:Kn D ν σ n f w e ob lkc oh)(h:Jb P D e ob lkc (.call ⟨.builtin .max,args,ts⟩) K):R1 P D ν σ ob oh (ev n f) (.call ⟨.builtin .max,args,ts⟩) K:=by
 have hm: ∀a b:Int,max a b=(if b>a then b else a):=by intro a b;omega
 simp only[Jb] at h
 split at h
 ·rename_i x y ha
  have ha':args= #[x,y]:=by apply Array.ext';simpa using ha
  subst ha'
  split at h
  case h_3=>exact h.elim
  ·rename_i k1 a k2 b hx hy
   obtain⟨hk,h⟩:=Jc h
   exact⟨_,_,_,h,.f (.int _ _),fun w oo ho _ _=>by simp[execOp,ho,Uf (hx▸k.e x),Uf (hy▸k.e y),resolve,invoke,builtin,Builtin.max_,Builtin.max2,hm]⟩
  ·rename_i a b hx hy
   by_cases hb:blt a b
   ·exact⟨_,_,_,h.1 hb,.f (.str _),fun w oo ho _ _=>by simp[execOp,ho,U8 (hx▸k.e x),U8 (hy▸k.e y),resolve,invoke,builtin,Builtin.max_,Builtin.max2,w77,hb,asBool]⟩
   ·exact⟨_,_,_,h.2 hb,.f (.str _),fun w oo ho _ _=>by simp[execOp,ho,U8 (hx▸k.e x),U8 (hy▸k.e y),resolve,invoke,builtin,Builtin.max_,Builtin.max2,w77,hb,asBool]⟩
 ·exact h.elim
theorem j5f{lo:Option Operand}{z:Int}{i:Int}(k:Kn D ν σ n f w e ob lkc oh)(h:(match lo with|none=>some z|some o=>match e o with| .f (.int .i64 i)=>some i|_=>none)=some i):
  (lo=none/\i=z)∨ ∃o,lo=some o/\ev n f o= .int .i64 i:=by
 cases lo with
 |none=>cases h;exact .inl ⟨rfl,rfl⟩
 |some o=>
  simp only at h
  split at h
  ·rename_i j hj
   cases h
   exact .inr ⟨o,rfl,Uf (hj▸k.e o)⟩
  ·cases h
theorem RSl.drop'{α:Type}{size:Nat}{R:Hv->List Value->α->Prop}{a:Option Addr}{len cap:Nat}{l:List α}(h:RSl size R σ (.slice a len cap) l)(k:Nat)(hk:k<=l.length):
  RSl size R σ (.slice (if cap=k then a else a.map (·.add (k*size))) (len - k) (cap - k)) (l.drop k):=by
 obtain⟨a',cap',h1,h2,h3,h4⟩:=h
 cases h1
 refine⟨_,cap - k,by rw[List.length_drop],by rw[List.length_drop];omega,by rw[List.length_drop];omega,fun i x hx=> ?_⟩
 rw[List.getElem?_drop] at hx
 obtain⟨ad,cs,rfl,hl,hr,hR⟩:=h4 _ x hx
 have hlt:=Qa hx
 rw[if_neg (by omega)]
 refine⟨_,cs,rfl,hl,?_,hR⟩
 rw[q24,←Nat.add_mul]
 exact hr
theorem v5j{t:TypeId}{x:Operand}{lo hi:Option Operand}(hD:D.Ok)(k:Kn D ν σ n f w e ob lkc oh)(h:Jb P D e ob lkc (.slice t x lo hi none) K):R1 P D ν σ ob oh (ev n f) (.slice t x lo hi none) K:=by
 simp only[Jb] at h
 split at h
 ·rename_i hu
  split at h
  case h_2=>exact h.elim
  rename_i s hx
  split at h
  case h_2=>exact h.elim
  rename_i l r hl hr
  obtain⟨⟨h0,h1,h2⟩,h⟩:=h
  have hb: ∀w,(Instr.sliceBounds false s.size s.size (lo.map (ev n f)) (hi.map (ev n f)) none).run P w= .ok (l.toNat,r.toNat,s.size) w:=by
   intro w
   have e2:0<=r:=by omega
   have e3:max r 0=r:=by omega
   rcases j5f k hl with ⟨rfl,rfl⟩|⟨o,rfl,ho⟩<;>rcases j5f k hr with ⟨rfl,rfl⟩|⟨o',rfl,ho'⟩<;>clear hl hr<;>
    simp_all [Instr.sliceBounds,Instr.sliceBound,asIntOf]
  exact⟨_,_,_,h,.f (.str _),fun w oo ho _ _=>by
   simp[execOp,ho,U8 (hx▸k.e x),Instr.sliceAt,run_underlying hu,Instr.slice,hb]⟩
 ·rename_i el hu
  split at h
  case h_2=>
   split at h
   case h_2=>exact h.elim
   rename_i o hxe
   split at h
   case h_2=>exact h.elim
   rename_i ety T li hob
   obtain⟨hc,h⟩:=Jc h
   obtain⟨hT,hsz⟩:=Qu hc
   have hsz:=Nat.eq_of_beq_eq_true hsz
   split at h
   case h_2=>exact h.elim
   rename_i l r hlo hhi
   obtain⟨⟨h0,h1,h2⟩,h⟩:=h
   obtain⟨hR,hok⟩:=k.o o _ hob
   obtain⟨v,xs,hν,hh,hE,hb0⟩:=hR
   rw[hh] at hok
   obtain⟨a,cap,hv,hcap⟩:=j6h hok
   have hxv:ev n f x=v:=Vq (hxe▸k.e x) hν
   rw[hv] at hxv
   have hb: ∀w,(Instr.sliceBounds true li.length cap (lo.map (ev n f)) (hi.map (ev n f)) none).run P w= .ok (l.toNat,r.toNat,cap) w:=by
    intro w
    have e1:r<=(cap:Int):=by omega
    have e2:0<=r:=by omega
    have e3:max r 0=r:=by omega
    clear hok hh hE
    rcases j5f k hlo with ⟨rfl,rfl⟩|⟨o,rfl,ho⟩<;>rcases j5f k hhi with ⟨rfl,rfl⟩|⟨o',rfl,ho'⟩<;>clear hlo hhi<;>
     simp_all [Instr.sliceBounds,Instr.sliceBound,asIntOf]
   refine⟨_,_,_,h,.cut o (D.size T) l r a li.length cap (by rw[hν,hv]) ⟨h0,h1,h2⟩ hcap,fun w oo ho _ _=> ?_⟩
   simp[execOp,ho,hxv,Instr.sliceAt,run_underlying hu,Instr.slice,hb,Vg hT,hsz]
  rename_i T li hl
  obtain⟨hc,h⟩:=Jc h
  obtain⟨hT,hsz⟩:=Qu hc
  have hsz:=Nat.eq_of_beq_eq_true hsz
  split at h
  case h_2=>exact h.elim
  rename_i l r hlo hhi
  obtain⟨⟨h0,h1,h2⟩,h⟩:=h
  have hrep:=(v4g k hl).toRSl hD
  obtain⟨a,cap,hv,hcap,_⟩:=id hrep
  rw[hv] at hrep
  have hb: ∀w,(Instr.sliceBounds true li.length cap (lo.map (ev n f)) (hi.map (ev n f)) none).run P w= .ok (l.toNat,r.toNat,cap) w:=by
   intro w
   have e1:r<=(cap:Int):=by omega
   have e2:0<=r:=by omega
   have e3:max r 0=r:=by omega
   clear hrep hv hl
   rcases j5f k hlo with ⟨rfl,rfl⟩|⟨o,rfl,ho⟩<;>rcases j5f k hhi with ⟨rfl,rfl⟩|⟨o',rfl,ho'⟩<;>clear hlo hhi<;>
    simp_all [Instr.sliceBounds,Instr.sliceBound,asIntOf]
  have h3:=RSl.drop' (RSl.take hrep r.toNat (by omega)) l.toNat (by simp only[List.length_take];omega)
  refine⟨_,_,_,h,.f (RepF.ofRSl hD h3),fun w oo ho _ _=> ?_⟩
  simp[execOp,ho,hv,Instr.sliceAt,run_underlying hu,Instr.slice,hb,Vg hT,hsz]
 ·exact h.elim
theorem v1z{x:FV S}{v:Value}(h:RepF D σ v x)(hk:keyF x=true):v=valF x:=by
 cases h<;>first|rfl|cases hk
theorem w1k{cs:List Value}{ss:List (FV S)}(h:RowF D σ cs ss)(hk:ss.all keyF=true):cs=ss.map valF:=by
 apply List.ext_getElem?
 intro i
 rw[List.getElem?_map]
 rcases hq:ss[i]? with _|x
 ·have:ss.length<=i:=List.getElem?_eq_none_iff.1 hq
  rw[List.getElem?_eq_none (by rw[h.1];exact this)];rfl
 ·obtain⟨v,hv⟩:=getq (l:=cs) (k:=i) (by rw[h.1];exact Qa hq)
  rw[hv,v1z (h.2 i v x hv hq) ((List.all_eq_true.1 hk) x (List.mem_of_getElem? hq))]
  rfl
theorem w38{s:SV S}{v:Value}{x:FV S}{fz:List Nat}(hD:D.Ok)(ho: ∀o a,ob o=some a->ORep D ν σ lkc o a (oh o))(hs:SRep D ν σ v s)(h:toF ob s=some (x,fz)):
  (fz=[]/\RepF D σ v x)∨ ∃o e T l,fz=[o]/\x= .sl T l/\ob o=some (.vec e T l)/\ν o=some v:=by
 have _:=hD
 cases hs with
 |f hf=>cases h;exact .inl ⟨rfl,hf⟩
 |lit b=>cases h;exact .inl ⟨rfl,.bool b⟩
 |pb p d=>cases h;exact .inl ⟨rfl,.bool _⟩
 |pbn p d=>cases h;exact .inl ⟨rfl,.bool _⟩
 |hnd o v hν h1=>
  simp only[toF] at h
  cases hq:ob o with
  |none=>rw[hq] at h;cases h
  |some a=>
   rw[hq] at h
   cases a with
   |vec e T l=>cases h;exact .inr ⟨o,e,T,l,rfl,rfl,hq,hν⟩
   |frz T l=>
    cases h
    obtain⟨v',hν',_,hr⟩:=ho o _ hq
    rw[hν] at hν';cases hν'
    exact .inl ⟨rfl,hr⟩
   |_=>cases h
 |_=>cases h
theorem z5t{ss:List (SV S)}{cs:List Value}{xs:List (FV S)}(hD:D.Ok)(ho: ∀o a,ob o=some a->ORep D ν σ lkc o a (oh o))(hs:RowS D ν σ cs ss)(h:toFs ob ss=some (xs,[])):RowF D σ cs xs:=by
 induction ss generalizing cs xs with
 |nil=>cases h;exact⟨hs.1,fun j v s hj hk=>by cases hk⟩
 |cons s ss ih=>
  cases cs with
  |nil=>have:=hs.1;cases this
  |cons c cs=>
   simp only[toFs] at h
   split at h
   case h_2=>cases h
   rename_i x a hx
   split at h
   case h_2=>cases h
   rename_i xs' b hxs
   injection h with h
   injection h with h0 hab
   subst h0
   obtain⟨rfl,rfl⟩:a=[]/\b=[]:=by simpa using hab
   have h1:=w38 hD ho (hs.2.1 0 c s rfl rfl) hx
   have h2:=ih (cs:=cs) ⟨by have:=hs.1;simpa using this,fun j v s hj hk=>hs.2.1 (j+1) v s (by simpa using hj) (by simpa using hk),fun v hv=>hs.2.2 v (by simp[hv])⟩ hxs
   rcases h1 with ⟨_,h1⟩|⟨_,_,_,_,h0,_⟩
   ·refine⟨by simp[h2.1],fun j v s hj hk=> ?_⟩
    cases j with
    |zero=>cases hj;cases hk;exact h1
    |succ j=>exact h2.2 j v s (by simpa using hj) (by simpa using hk)
   ·cases h0
theorem z21{s:SV S}{l:List (SV S)}(h:keyS s=some l):z1e s=some l:=by
 unfold keyS at h
 split at h
 ·exact h
 ·cases h
 ·exact h
theorem z5u{D:Shp S}{ν:Nm}{σ:Hv}{v:Value}{s:SV S}{l:List (SV S)}(hs:SRep D ν σ v s)(h:keyS s=some l):v=asV v.cells.toList:=by
 cases hs with
 |agg cs ss hl h' h1=>
  match ss,h,hl with
  |a::b::ss,_,hl=>
   match cs,hl with
   |u::u'::cs,_=>rfl
 |f hf=>rw[hf.cells];rfl
 |tup=>cases h
 |arr=>cases h
 |dead=>cases h
 |und=>cases h
 |hnd o v hν h1=>
  have:v.cells= #[v]:=by cases v<;>first|rfl|cases h1
  rw[this];rfl
 |_=>rfl
theorem q5i{K V K' V':S.C}{F:S.car K->Option (S.car V)}{k:(S.car K'->Option (S.car V'))->Prop}(h:q9e K V F K' V' k): ∃(e1:K=K') (e2:V=V'),k (e1▸e2▸F):=by
 unfold q9e at h
 split at h
 ·exact⟨_,_,h⟩
 ·exact h.elim
theorem v10{t:TypeId}{m x:Operand}{okk:Bool}(hP:D.OkP P)(k:Kn D ν σ n f w e ob lkc oh)(h:Jb P D e ob lkc (.lookup t m x okk) K):R1 P D ν σ ob oh (ev n f) (.lookup t m x okk) K:=by
 simp only[Jb] at h
 split at h
 case h_2=>exact h.elim
 rename_i Kc V kt0 et0 o hmc hu hm
 obtain⟨kt,et,hu',hK,hkey,hT,hA,hsz,z,hz,hzr⟩:=hP.map _ _ _ hmc
 rw[hu] at hu';cases hu'
 split at h
 case h_2=>exact h.elim
 rename_i K' V' F ks ho hks
 obtain⟨q,hq,h⟩:=Qf h
 obtain⟨hnil,h⟩:=Jc h
 obtain⟨ky,hky,h⟩:=Qf h
 obtain⟨e1,e2,h⟩:=q5i h
 subst e1 e2
 obtain⟨s,hs,hK2⟩:=Qf h
 obtain⟨xs,fz⟩:=q
 have hfz:fz=[]:=by simpa using hnil
 subst hfz
 obtain⟨hR,hok⟩:=k.o o _ ho
 obtain⟨b,mm,hν,hh,hF⟩:=hR
 have hor: ∀o a,ob o=some a->ORep D ν σ lkc o a (oh o):=fun o a h=>(k.o o a h).1
 have hrow:=z5t hP.ok hor (Hi (k.e x) (z21 hks)) hq
 have hrow2:=hP.ok.bld _ _ _ _ _ hky hrow
 have hval:=w1k hrow2 (hkey ky)
 have hxv:ev n f x=kenc D K' ky:=by
  unfold kenc
  rw[←hval]
  exact z5u (k.e x) hks
 have hmv:ev n f m= .map (some b):=Vq (hm▸k.e m) hν
 have hel:ElV D σ V' ((mm ky).getD z) ((F ky).getD (D.zero V')):=ORel.getD (hF ky) (hzr σ)
 obtain⟨cs,hcs,hv⟩:=hel
 obtain⟨v,hv',hl,hp⟩:=z88 (D:=D) (ν:=ν) (hcs.toS) hs
 have hvv:v=(mm ky).getD z:=by
  have h1:=hp w
  simp only[part,Sem.run_bind,q69 hT,Result.andThen_ok,hA] at h1
  rw[hv]
  have hlen:cs.length=D.size V':=by rw[hcs.1,hP.ok.len]
  cases hb:Nat.beq (D.size V') 1 with
  |true=>
   have hb':=Nat.eq_of_beq_eq_true hb
   match cs,hlen.trans hb' with
   |[u],_=>
    simp only[hb,Bool.not_true,Bool.false_eq_true,if_false] at h1
    simp at h1
    exact h1.symm
  |false=>
   have hb':D.size V'≠1:=fun he=>by rw[he] at hb;cases hb
   simp only[hb,Bool.not_false,if_true,Sem.run_bind,Vg hT,hsz,Result.andThen_ok,Sem.run_pure] at h1
   have h2:v= .agg (cs.toArray.extract 0 (0+D.size V')):=by cases h1;rfl
   rw[h2,←hlen]
   have h3:cs.toArray.extract 0 (0+cs.length)=cs.toArray:=by simp
   rw[h3]
   match cs,hlen with
   |[],_=>rfl
   |[u],hl=>exact absurd hl.symm hb'
   |u::u'::cs,_=>rfl
 have hor2:(mm ky).isSome=(F ky).isSome:=ORel.isSome (hF ky)
 cases okk with
 |true=>
  refine⟨_,_,.tuple #[v,.bool (F ky).isSome],hK2,.tup [v,.bool (F ky).isSome] _ rfl (fun j u s' hj hs'=> ?_),fun w oo hoo _ hrd=> ?_⟩
  ·match j with
   |0=>cases hj;cases hs';exact hv'
   |1=>cases hj;cases hs';exact .f (.bool _)
   |j+2=>cases hj
  ·have hokw:=hrd o (by simp) _ ho
   rw[hh] at hokw
   simp[execOp,hoo,hmv,hxv,j8r hK hu hz hokw true,hvv,hor2]
 |false=>
  refine⟨_,_,v,hK2,hv',fun w oo hoo _ hrd=> ?_⟩
  have hokw:=hrd o (by simp) _ ho
  rw[hh] at hokw
  simp[execOp,hoo,hmv,hxv,j8r hK hu hz hokw false,hvv]
theorem j6j{cs:List Value}{l:List (FV S)}(h:RowF D σ cs l):SRep D ν σ (asV cs) (svOf l):=by
 match l,cs,h with
 |[x],[c],h=>exact .f (h.2 0 c x rfl rfl)
 |[],[],h=>exact .agg [] [] rfl (fun j v s hj=>by cases hj) (by simp)
 |x::y::l,c::d::cs,h=>
  have:=h.toS (ν:=ν)
  exact .agg _ _ this.1 this.2.1 this.2.2
 |[],_::_,h=>have:=h.1;simp at this
 |[_],[],h=>have:=h.1;simp at this
 |[_],_::_::_,h=>have:=h.1;simp at this
 |_::_::_,[],h=>have:=h.1;simp at this
 |_::_::_,[_],h=>have:=h.1;simp at this
theorem w78{l:List (FV S)}(h:l.all keyF=true):RowF D σ (l.map valF) l:=by
 refine⟨by simp,fun j v s hj hs=> ?_⟩
 rw[List.getElem?_map,hs] at hj
 cases hj
 have:=List.all_eq_true.1 h s (List.mem_of_getElem? hs)
 cases s<;>simp[keyF] at this<;>constructor
theorem v5k{x:Operand}(k:Kn D ν σ n f w e ob lkc oh)(h:Jb P D e ob lkc (.entry x) K):R1 P D ν σ ob oh (ev n f) (.entry x) K:=by
 simp only[Jb] at h
 split at h
 case h_2=>exact h.elim
 rename_i o hx
 split at h
 case h_2=>exact h.elim
 rename_i Kc V F done ky y ho
 obtain⟨hR,hok⟩:=k.o o _ ho
 obtain⟨r,b,es,clock,cv,hν,hh,hb,hK,hM,hF,hkey,hinj,hcur⟩:=hR
 obtain⟨v,hcv,cs,hcs,hv⟩:=hcur ky y rfl
 have hxv:ev n f x= .pointer (some ⟨r,0,none⟩):=by
  have hx':=k.e x
  rw[hx] at hx'
  generalize ev n f x=u at hx'
  cases hx' with
  |ref _ _ b' h'=>rw[hν] at h';cases h';rfl
 refine⟨_,_,.tuple #[kenc D Kc ky,v],h,.tup [kenc D Kc ky,v] _ rfl (fun j u s' hj hs'=> ?_),fun w oo hoo hV hrd=> ?_⟩
 ·match j with
  |0=>cases hj;cases hs';exact j6j (w78 (hkey ky))
  |1=>cases hj;cases hs';rw[hv];exact j6j hcs
  |j+2=>cases hj
 ·have hokw:=hrd o (by simp) _ ho
  rw[hh] at hokw
  obtain⟨seen,k1,k2,k3⟩:=hokw
  obtain⟨s0,e',rfl,he,hk,hv'⟩:=k3 _ hcv
  have:=run_entry_at (P:=P) w r b clock s0 es clock e' k1 (hV _ _ hb) he hM.2.1
  rw[hk,hv'] at this
  simp only[execOp,hoo,hxv,Sem.run_bind,this,Result.andThen_ok]
  rfl
theorem w1l{o:Op}(hP:D.OkP P)(k:Kn D ν σ n f w e ob lkc oh)(h:Jb P D e ob lkc o K):R1 P D ν σ ob oh (ev n f) o K:=by
 have hD:=hP.ok
 unfold Jb at h
 split at h
 ·exact⟨_,_,_,h,k.e _,fun w oo ho _ _=>by simp[execOp,ho]⟩
 ·exact⟨_,_,_,h,k.e _,fun w oo ho _ _=>by simp[execOp,ho]⟩
 ·exact v8e k h
 ·exact v8f k h
 ·exact w1g k h
 ·exact w5d k h
 ·exact w1h hD k h
 ·exact v5d k h
 ·exact v5i hD k h
 ·exact w70 k h
 ·exact w5f k h
 ·exact v5g hD k h
 ·exact y0q k h
 ·exact y0r k h
 ·exact w74 hP k h
 ·exact v5h k h
 ·exact v5j hD k h
 ·exact y0s hD k h
 ·exact y0t k h
 ·exact y0u k h
 ·exact v10 hP k h
 ·exact v5k k h
 ·exact h.elim
end Go.Fx
end
