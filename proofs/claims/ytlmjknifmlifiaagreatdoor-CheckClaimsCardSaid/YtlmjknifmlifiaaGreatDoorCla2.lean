/- CheckClaims This is part 2 of 11. Conditions: those in the statements. -/
import Derived.Test.YtlmjknifmlifiaaGreatDoorCla1
import Derived.Laws.Pointers
import Derived.Lib.ConvBytes
set_option maxRecDepth 100000
noncomputable section
namespace Go.Fx
open Go Go.RowKit Go.Fl Go.Fl.Lk
variable {S:Sig}{P:Program}{D:Shp S}{ν:Nm}{σ:Hv}{n:Nat}{f:Fr}
variable {w:World}{e:Operand->SV S}{ob:Nat->Option (AO S)}{lkc:Nat->Nat->SV S}{oh:Nat->HObj}{K:List Nat->SV S->Prop}
theorem Gf{v:Value}{k:IntKind}{a:Int}(h:SRep D ν σ v (.f (.int k a))):v= .int k a:=by
 cases h with
 |f h=>cases h;rfl
theorem Hf{v:Value}{a:BA}(h:SRep D ν σ v (.f (.str a))):v= .string a:=by
 cases h with
 |f h=>cases h;rfl
theorem y2v{x:Operand}{T:S.C}{l:List (S.car T)}(k:Kn D ν σ n f w e ob lkc oh)(h:lstS ob (e x)=some ⟨T,l⟩):RepF D σ (ev n f x) (.sl T l):=by
 have hx:=k.e x;generalize hvx:ev n f x=vx at hx;generalize e x=sx at h hx;cases hx with
 |f hf=>
  cases hf with
  |sl T' l' a cap c h1 h2 h3 h4=>
   simp only[lstS] at h;cases h;exact .sl _ _ a cap c h1 h2 h3 h4
  |_=>cases h
 |hnd o v hν h1=>
  simp only[lstS] at h;cases ho:ob o with
  |none=>rw[ho] at h;cases h
  |some a=>
   rw[ho] at h;obtain⟨hR,hok⟩:=k.o o a ho;cases a with
   |frz T' l'=>
    cases h;obtain⟨v',hν',_,hr⟩:=hR;rw[hν] at hν';cases hν';exact hr
   |_=>cases h
 |_=>cases h
theorem w5l{st el:TypeId}{x y:Operand}{q:IntKind}{i:Int}{a:Addr}{len cap:Nat}(hx:ev n f x= .slice (some a) len cap)(hy:ev n f y= .int q i)(h0:0<=i)(hk:i<(len:Int))
  (hu:P.underlying st=some (.slice el))(hT:hasT P el=true)(w:World){oo:Oper}(ho:oo.op= .indexAddr st x y):
  (execOp (ev n f) oo).run P w= .ok (.value (.pointer (some (a.add (i.toNat*szQ P el))))) w:=by
 simp[execOp,ho,hx,hy,Instr.indexAt,asIntOf,run_underlying hu,Un hT,h0,hk]
theorem z1a{st el:TypeId}{x y:Operand}{q:IntKind}{i:Int}{a:Addr}{len:Nat}(hx:ev n f x= .pointer (some a))(hy:ev n f y= .int q i)(h0:0<=i)(hk:i<(len:Int))
  (hu:P.underlying st=some (.array len el))(hT:hasT P el=true)(w:World){oo:Oper}(ho:oo.op= .indexAddr st x y):
  (execOp (ev n f) oo).run P w= .ok (.value (.pointer (some (a.add (i.toNat*szQ P el))))) w:=by
 simp[execOp,ho,hx,hy,Instr.indexAt,asIntOf,run_underlying hu,Un hT,h0,hk,Instr.sureAddr]
theorem w8l{t:TypeId}{x j:Operand}(hD:D.Ok)(k:Kn D ν σ n f w e ob lkc oh)(h:Jv P D e ob lkc (.indexAddr t x j) K):q0v P D ν σ ob oh (ev n f) (.indexAddr t x j) K:=by
 simp only[Jv] at h;split at h;case h_2=>exact h.elim
 rename_i _ i hj;have hj':=Gf (hj▸k.e j);split at h
 .rename_i el hu;obtain⟨hT,h⟩:=J1 h;split at h
  .rename_i T l hl;obtain⟨hsz,⟨h0,h1⟩,h⟩:=J1 h;have hsz:=e9 hsz;obtain⟨y,hy⟩:=getq (l:=l) (k:=i.toNat) (by omega);obtain⟨a,cap,hv,_,_,hel⟩:=(y2v k hl).toRSl hD;obtain⟨ad,cs,ha,hcl,hrow,hR⟩:=hel _ y hy;subst ha;refine⟨_,_,_,h y hy,.fptr (ad.add (i.toNat*D.size T)) cs _ 0 hrow hR,fun w oo hoo _ _=> ?_⟩;rw[w5l hv hj' h0 h1 hu hT w hoo,hsz];simp[Addr.add]
  .rename_i hl;have hx:=k.e x;generalize hvx:ev n f x=vx at hx;generalize e x=sx at h hx;cases hx with
   |hnd o v hν hone=>
    simp only at h;cases ho:ob o with
    |none=>rw[ho] at h;exact h.elim
    |some a=>
     rw[ho] at h;obtain⟨hR,hok⟩:=k.o o a ho;cases a with
     |vec ety T l=>
      obtain⟨hsz,⟨h0,h1⟩,h⟩:=J1 h;have hsz:=e9 hsz;obtain⟨v',xs,hν',hh,hE,_⟩:=hR;rw[hν] at hν';cases hν';rw[hh] at hok;obtain⟨g,cap,rfl⟩:=w8a hok (by omega);refine⟨_,_,_,h,.eref T o i.toNat 0 g l.length cap hν (by omega),fun w oo hoo _ _=> ?_⟩;rw[w5l hvx hj' h0 h1 hu hT w hoo,hsz,q2o,Nat.zero_add,Nat.add_zero]
     |_=>exact h.elim
   |_=>exact h.elim
 .rename_i len el hu;obtain⟨hT,h⟩:=J1 h;have hx:=k.e x;generalize hvx:ev n f x=vx at hx;generalize e x=sx at h hx;cases hx with
  |ref o off b hν=>
   simp only at h;cases ho:ob o with
   |none=>rw[ho] at h;exact h.elim
   |some a=>
    rw[ho] at h;obtain⟨hR,hok⟩:=k.o o a ho;cases a with
    |arr ty T N l=>
     obtain⟨hc,⟨h0,h1⟩,h⟩:=J1 h;obtain⟨hc,hN⟩:=Q6 hc;obtain⟨hc,hsz⟩:=Q6 hc;have hc:=e9 hc;have hN:=e9 hN;have hsz:=e9 hsz;refine⟨_,_,_,h,.aref T N o i.toNat 0 b hν (by omega),fun w oo hoo _ _=> ?_⟩;rw[z1a hvx hj' h0 h1 hu hT w hoo,hsz,q2o,hc,Nat.zero_add,Nat.add_zero]
    |cells ty l=>
     simp only at h;cases hq:y2s j with
     |false=>
      rw[hq] at h;obtain⟨⟨h0,h1⟩,h⟩:=h;have h:=w5g h (show i.toNat<len by omega) (by omega);refine⟨_,_,_,h,.ref o _ b hν,fun w oo hoo _ _=> ?_⟩;rw[z1a hvx hj' h0 (by omega) hu hT w hoo,q2o]
     |true=>
     rw[hq] at h;obtain⟨hc,h⟩:=J1 h;obtain⟨hlt,h0⟩:=Q6 hc;have h0:0<=i:=of_decide_eq_true h0;have hlt:i.toNat<len:=by rw[<-Nat.blt_eq];exact hlt
     refine⟨_,_,_,h,.ref o _ b hν,fun w oo hoo _ _=> ?_⟩;rw[z1a hvx hj' h0 (by omega) hu hT w hoo,q2o]
    |_=>exact h.elim
  |fptr ad cs l off hrow hr=>
   obtain⟨hc,h⟩:=J1 h;obtain⟨hlt,h0⟩:=Q6 hc;have h0:0<=i:=of_decide_eq_true h0;have hlt:i.toNat<len:=by rw[<-Nat.blt_eq];exact hlt
   refine⟨_,_,_,h,.fptr ad cs l _ hrow hr,fun w oo hoo _ _=> ?_⟩;rw[z1a hvx hj' h0 (by omega) hu hT w hoo,q2i]
  |fap ad cs T N l hN hrow hl hr=>
   obtain⟨hc,⟨h0,h1⟩,h⟩:=J1 h;obtain⟨hsz,hN'⟩:=Q6 hc;have hN':=e9 hN';have hsz:=e9 hsz;obtain⟨y,hy⟩:=getq (l:=l) (k:=i.toNat) (by omega);refine⟨_,_,_,h y hy,.fptr (ad.add (i.toNat*D.size T)) _ _ 0 (VRow.part hrow rfl) (hr _ y hy),fun w oo hoo _ _=> ?_⟩;rw[z1a hvx hj' h0 h1 hu hT w hoo,hsz];simp[Addr.add]
  |_=>exact h.elim
 .exact h.elim
theorem y4b{s:TypeId}{x:Operand}{i:Nat}(k:Kn D ν σ n f w e ob lkc oh)(h:Jv P D e ob lkc (.field s x i) K):q0v P D ν σ ob oh (ev n f) (.field s x i) K:=by
 simp only[Jv] at h;split at h;case h_2=>exact h.elim
 rename_i fs l hu hx;split at h;case h_2=>exact h.elim
 rename_i fld hf;obtain⟨s',hs,hK⟩:=Ql h;have hr:=hx▸k.e x;generalize hvx:ev n f x=vx at hr;cases hr with
 |agg cs _ hl h1 h2=>
  obtain⟨v,hv,_,hp⟩:=j7d (D:=D) (ν:=ν) (σ:=σ) (cs:=cs) ⟨hl,h1,h2⟩ hs;exact⟨_,_,v,hK,hv,fun w oo hoo _ _=>by simp[execOp,hoo,hvx,Instr.field,run_underlying hu,hf,asAgg,hp]⟩
theorem v5o{x:Operand}{i:Nat}(k:Kn D ν σ n f w e ob lkc oh)(h:Jv P D e ob lkc (.extract x i) K):q0v P D ν σ ob oh (ev n f) (.extract x i) K:=by
 simp only[Jv] at h;split at h;case h_2=>exact h.elim
 rename_i l hx;obtain⟨s',hs,hK⟩:=Ql h;have hr:=hx▸k.e x;generalize hvx:ev n f x=vx at hr;cases hr with
 |tup cs _ hl h1=>
  obtain⟨v,hv⟩:=getq (l:=cs) (k:=i) (by rw[hl];exact Qj hs);exact⟨_,_,v,hK,h1 _ v s' hv hs,fun w oo hoo _ _=>by simp[execOp,hoo,hvx,Instr.extract,hv]⟩
theorem v2s{g:FuncId}{a b:Array Operand}(k:Kn D ν σ n f w e ob lkc oh)(h:Jv P D e ob lkc (.makeFunc (.func g) a b) K):q0v P D ν σ ob oh (ev n f) (.makeFunc (.func g) a b) K:=by
 have hm: ∀(a:Array Operand) (j:Nat) v s,(a.toList.map (ev n f))[j]? =some v->(a.toList.map e)[j]? =some s->SRep D ν σ v s:=by
  intro a j v s hv hs;rw[List.getElem?_map] at hv hs;rcases hq:a.toList[j]? with _|x
  .rw[hq] at hv;cases hv
  .rw[hq] at hv hs;cases hv;cases hs;exact k.e x
 refine⟨_,_,.func (.func g) (a.toList.map (ev n f)).toArray (b.toList.map (ev n f)).toArray,h,.fn g _ _ _ _ (by simp) (hm a) (by simp) (hm b),fun w oo hoo _ _=> ?_⟩;have e1: ∀a:Array Operand,(a.toList.map (ev n f)).toArray=a.map (ev n f):=by intro a;apply Array.ext';simp
 rw[e1,e1];simp[execOp,hoo,Instr.makeFunc]
theorem z65{k:IntKind}{r:Int}{K':SV S->Prop}(h:w5e k r K'): ∃r',K' (.f (.int k r'))/\k.wrap r=r':=by
 unfold w5e at h;split at h
 .exact⟨_,h.2,nwi rfl h.1⟩
 .exact⟨_,h,rfl⟩
def v5p(P:Program)(D:Shp S)(ν:Nm)(σ:Hv)(r:Operand->Value)(o:Op)(K:SV S->Prop):Prop:=
 ∃s v,K s/\SRep D ν σ v s/\∀(w:World) (oo:Oper),oo.op=o->(execOp r oo).run P w= .ok (.value v) w
theorem y4c{op:BinOp}{t u:TypeId}{x y:Operand}{k:IntKind}{a b:Int}{K:SV S->Prop}(hx:ev n f x= .int k a)(hy:ev n f y= .int k b)(h:binI op k a b K):
  v5p P D ν σ (ev n f) (.binOp op t x y u) K:=by
 have run: ∀(w:World) (oo:Oper) (v:Value),oo.op= .binOp op t x y u->(binOp op t (.int k a) (.int k b)).run P w= .ok v w->(execOp (ev n f) oo).run P w= .ok (.value v) w:=by
  intro w oo v ho hr;have hg:(eqGuard op t x y (.int k a) (.int k b)).run P w= .ok () w:=by unfold eqGuard;split<;>simp
  simp[execOp,ho,hx,hy,hg,hr]
 unfold binI at h;split at h
 .obtain⟨r,hK,hr⟩:=z65 h;exact⟨_,_,hK,.f (.int k r),fun w oo ho=>run w oo _ ho (by simp[binOp,Op.intArith,hr])⟩
 .obtain⟨r,hK,hr⟩:=z65 h;exact⟨_,_,hK,.f (.int k r),fun w oo ho=>run w oo _ ho (by simp[binOp,Op.intArith,hr])⟩
 .obtain⟨r,hK,hr⟩:=z65 h;exact⟨_,_,hK,.f (.int k r),fun w oo ho=>run w oo _ ho (by simp[binOp,Op.intArith,hr])⟩
 .obtain⟨r,hK,hr⟩:=z65 h.2;exact⟨_,_,hK,.f (.int k r),fun w oo ho=>run w oo _ ho (by simp[binOp,Op.intDiv,hr,h.1])⟩
 .exact⟨_,_,h.2,.f (.int k _),fun w oo ho=>run w oo _ ho (by simp[binOp,Op.intDiv,h.1])⟩
 .exact⟨_,_,h,.pb _ _,fun w oo ho=>run w oo _ ho (by simp[binOp,Op.intCmp];by_cases hab:a=b<;>simp[hab])⟩
 .exact⟨_,_,h,.pbn _ _,fun w oo ho=>run w oo _ ho (by simp[binOp,Op.intCmp];by_cases hab:a=b<;>simp[hab])⟩
 .exact⟨_,_,h,.pb _ _,fun w oo ho=>run w oo _ ho (by simp[binOp,Op.intCmp])⟩
 .exact⟨_,_,h,.pb _ _,fun w oo ho=>run w oo _ ho (by simp[binOp,Op.intCmp])⟩
 .exact⟨_,_,h,.pb _ _,fun w oo ho=>run w oo _ ho (by simp[binOp,Op.intCmp])⟩
 .exact⟨_,_,h,.pb _ _,fun w oo ho=>run w oo _ ho (by simp[binOp,Op.intCmp])⟩
 .exact h.elim
theorem y4d{op:BinOp}{t u:TypeId}{x y:Operand}{a b:BA}{K:SV S->Prop}(hx:ev n f x= .string a)(hy:ev n f y= .string b)(h:binT op a b K):
  v5p P D ν σ (ev n f) (.binOp op t x y u) K:=by
 have run: ∀(w:World) (oo:Oper) (v:Value),oo.op= .binOp op t x y u->(Op.stringOp op a b).run P w= .ok v w->(op≠ .shl/\op≠ .shr)->(execOp (ev n f) oo).run P w= .ok (.value v) w:=by
  intro w oo v ho hr hs;have hg:(eqGuard op t x y (.string a) (.string b)).run P w= .ok () w:=by unfold eqGuard;split<;>simp
  have hb:(binOp op t (.string a) (.string b)).run P w= .ok v w:=by cases op<;>first|exact hr|exact absurd rfl hs.1|exact absurd rfl hs.2
  simp[execOp,ho,hx,hy,hg,hb]
 have lt:Op.bytesLess a.toList b.toList=decide (blt a b):=w2e a b;unfold binT at h;split at h
 .have h1: ¬((a.size+b.size:Nat):Int)>IntKind.i64.max:=by have:IntKind.i64.max=9223372036854775807:=rfl;rw[this];omega
  exact⟨_,_,h.2,.f (.str (a++b)),fun w oo ho=>run w oo _ ho (by simp only[Op.stringOp,if_neg h1];rfl) (by simp)⟩
 .exact⟨_,_,h,.pb _ _,fun w oo ho=>run w oo _ ho (by simp[Op.stringOp,z4t]) (by simp)⟩
 .exact⟨_,_,h,.pbn _ _,fun w oo ho=>run w oo _ ho (by simp[Op.stringOp,z4t]) (by simp)⟩
 .exact⟨_,_,h,.pb _ _,fun w oo ho=>run w oo _ ho (by simp only[Op.stringOp,lt];rfl) (by simp)⟩
 .refine⟨_,_,h,.pbn _ _,fun w oo ho=>run w oo _ ho ?_ (by simp)⟩;have:=w8f a b;simp only[Op.stringOp,lt,z4t];rw[show (decide (blt a b)||decide (a=b))= !decide (blt b a) by rw[<-this];simp];rfl
 .refine⟨_,_,h,.pb _ _,fun w oo ho=>run w oo _ ho ?_ (by simp)⟩;have:=w8f a b;simp only[Op.stringOp,lt,z4t,this];rfl
 .refine⟨_,_,h,.pbn _ _,fun w oo ho=>run w oo _ ho ?_ (by simp)⟩;simp only[Op.stringOp,lt];rfl
 .exact h.elim
theorem j7f{s:SV S}{v:Value}{b:Bool}(hs:SRep D ν σ v s)(h:v2p s=some b):v= .bool b:=by
 cases hs with
 |lit c=>cases h;rfl
 |f hf=>
  cases hf with
  |bool c=>cases h;rfl
  |_=>cases h
 |pb p d=>cases h;rfl
 |pbn p d=>cases h;rfl
 |_=>cases h
theorem v1c{op:BinOp}{t u:TypeId}{x y:Operand}{k k':IntKind}{a b r:Int}{K:SV S->Prop}(hx:ev n f x= .int k a)(hy:ev n f y= .int k' b)
  (hop:op= .shl/\r=k.wrap (a*2 ^ min b.toNat k.bits)\/op= .shr/\r=a.fdiv (2 ^ min b.toNat k.bits))(hb:0<=b)(h:K (.f (.int k r))):v5p P D ν σ (ev n f) (.binOp op t x y u) K:=by
 have hb': ¬b<0:=by omega
 refine⟨_,_,h,.f (.int k r),fun w oo ho=> ?_⟩;have hg:(eqGuard op t x y (.int k a) (.int k' b)).run P w= .ok () w:=by unfold eqGuard;split<;>simp
 rcases hop with ⟨rfl,rfl⟩|⟨rfl,rfl⟩<;>simp[execOp,ho,hx,hy,hg,binOp,Op.shift,hb']
theorem w8m{op:BinOp}{t u:TypeId}{x y:Operand}{k k':IntKind}{a b r:Int}{K:SV S->Prop}(hx:ev n f x= .int k a)(hy:ev n f y= .int k' b)(hk:(k==k')=true)
  (hop:op= .and/\r=k.wrap (BitVec.ofInt k.bits a &&& BitVec.ofInt k.bits b).toNat\/op= .or/\r=k.wrap (BitVec.ofInt k.bits a|||BitVec.ofInt k.bits b).toNat\/op= .xor/\r=k.wrap (BitVec.ofInt k.bits a ^^^ BitVec.ofInt k.bits b).toNat)
  (h:K (.f (.int k r))):v5p P D ν σ (ev n f) (.binOp op t x y u) K:=by
 have hk':k=k':=by simpa using hk
 subst hk';refine⟨_,_,h,.f (.int k r),fun w oo ho=> ?_⟩;have hg:(eqGuard op t x y (.int k a) (.int k b)).run P w= .ok () w:=by unfold eqGuard;split<;>simp
 rcases hop with ⟨rfl,rfl⟩|⟨rfl,rfl⟩|⟨rfl,rfl⟩<;>simp only[execOp,ho,hx,hy,binOp,Op.intBits,Sem.run_bind,hg,Result.andThen_ok]<;>simp
theorem z2h{v:Value}(h:SRep D ν σ v (.f .nils)):v= .slice none 0 0:=by
 cases h with
 |f h=>cases h;rfl
theorem Uo{v u:Value}{o:Nat}(h:SRep D ν σ v (.hnd o))(hu:ν o=some u):v=u:=by
 cases h with
 |hnd _ v h _=>rw[hu] at h;cases h;rfl
theorem v5q{v:Value}{T:S.C}{l:List (S.car T)}(h:SRep D ν σ v (.f (.sl T l))):RepF D σ v (.sl T l):=by
 cases h with
 |f h=>exact h
theorem w5m{k:FK}{a b:SV S}{u v:Value}{q:(p:Prop)×' Decidable p}(h:w1a k a b=some q)(ha:SRep D ν σ u a)(hb:SRep D ν σ v b):okV k u/\okV k v/\(q.1↔u=v):=by
 cases k with
 |int k=>
  simp only[w1a] at h;split at h;case h_2=>cases h
  rename_i k1 x k2 y;obtain⟨hc,h'⟩:=j0p h;clear h;obtain⟨h1,h2⟩:=Q6 hc;have h1:k1=k:=by simpa using h1
  have h2:k2=k:=by simpa using h2
  subst h1 h2;cases h';rw[Gf ha,Gf hb];exact⟨⟨_,rfl⟩,⟨_,rfl⟩,by simp⟩
 |bool=>
  simp only[w1a] at h;split at h;case h_2=>cases h
  rename_i x y hx hy;cases h;rw[j7f ha hx,j7f hb hy];exact⟨⟨_,rfl⟩,⟨_,rfl⟩,by simp⟩
 |str=>
  simp only[w1a] at h;split at h;case h_2=>cases h
  cases h;rw[Hf ha,Hf hb];exact⟨⟨_,rfl⟩,⟨_,rfl⟩,by simp⟩
theorem w1c: ∀{ks:List FK} {l l':List (SV S)} {cs cs':List Value} {q:(p:Prop)×' Decidable p},q57 ks l l'=some q->cs.length=l.length->cs'.length=l'.length->(∀(j:Nat) v s,cs[j]? =some v->l[j]? =some s->SRep D ν σ v s)->
  (∀(j:Nat) v s,cs'[j]? =some v->l'[j]? =some s->SRep D ν σ v s)->Conf ks cs/\Conf ks cs'/\(q.1↔cs=cs')
 |[],l,l',cs,cs',q,h,_,_,_,_=>by simp[q57] at h
 |[k],l,l',cs,cs',q,h,h1,h2,h3,h4=>by
  match l,l',h with
  |[a],[b],h=>
   match cs,cs',h1,h2 with
   |[u],[v],_,_=>
    obtain⟨x,y,z⟩:=w5m h (h3 0 u a rfl rfl) (h4 0 v b rfl rfl);refine⟨⟨rfl,fun i k' w hk hw=> ?_⟩,⟨rfl,fun i k' w hk hw=> ?_⟩,by rw[z];simp⟩
    .cases i with
     |zero=>cases hk;cases hw;exact x
     |succ i=>simp at hk
    .cases i with
     |zero=>cases hk;cases hw;exact y
     |succ i=>simp at hk
  |[],_,h=>simp[q57] at h
  |[_],[],h=>simp[q57] at h
  |_::_::_,[],h=>simp[q57] at h
  |[_],_::_::_,h=>simp[q57] at h
  |_::_::_,_::_,h=>simp[q57] at h
 |k::k'::ks,l,l',cs,cs',q,h,h1,h2,h3,h4=>by
  match l,l',h with
  |[],_,h=>simp[q57] at h
  |_::_,[],h=>simp[q57] at h
  |a::l,b::l',h=>
   match cs,cs',h1,h2 with
   |u::cs,v::cs',h1,h2=>
    simp only[q57] at h;split at h;case h_2=>cases h
    rename_i p d q' e hp hq;cases h;obtain⟨x,y,z⟩:=w5m hp (h3 0 u a rfl rfl) (h4 0 v b rfl rfl);obtain⟨x',y',z'⟩:=w1c hq (by simpa using h1) (by simpa using h2) (fun j v s hj hs=>h3 (j+1) v s (by simpa using hj) (by simpa using hs)) (fun j v s hj hs=>h4 (j+1) v s (by simpa using hj) (by simpa using hs));refine⟨⟨by have:=x'.1;simp at this⊢;exact this,fun i kk w hk hw=> ?_⟩,⟨by have:=y'.1;simp at this⊢;exact this,fun i kk w hk hw=> ?_⟩,?_⟩
    .cases i with
     |zero=>cases hk;cases hw;exact x
     |succ i=>exact x'.2 i kk w (by simpa using hk) (by simpa using hw)
    .cases i with
     |zero=>cases hk;cases hw;exact y
     |succ i=>exact y'.2 i kk w (by simpa using hk) (by simpa using hw)
    .show p/\q'↔_;rw[show (p↔u=v) from z,show (q'↔cs=cs') from z'];simp
theorem v5r{v:Value}{l:List (SV S)}(h:SRep D ν σ v (.agg l)): ∃cs:List Value,v= .agg cs.toArray/\cs.length=l.length/\∀(j:Nat) u s,cs[j]? =some u->l[j]? =some s->SRep D ν σ u s:=by
 cases h with
 |agg cs ss hl h h1=>exact⟨cs,rfl,hl,h⟩
theorem z8l{t:TypeId}{ms:Array (String×TypeId)}(hu:P.underlying t=some (.interface ms))(d:Nat)(w:World):(Op.equalIn (d+1) t .nilIface .nilIface).run P w= .ok true w:=by simp[Op.equalIn,Sem.run_bind,run_underlying hu]
theorem z8m{t:TypeId}{ms:Array (String×TypeId)}(hu:P.underlying t=some (.interface ms))(d:Nat)(w:World)(a:TypeId)(p:Value):(Op.equalIn (d+1) t (.iface a p) .nilIface).run P w= .ok false w:=by simp[Op.equalIn,Sem.run_bind,run_underlying hu]
theorem y4e{op:BinOp}{t u:TypeId}{x y:Operand}(hD:D.Ok)(k:Kn D ν σ n f w e ob lkc oh)(h:Jv P D e ob lkc (.binOp op t x y u) K):q0v P D ν σ ob oh (ev n f) (.binOp op t x y u) K:=by
 suffices hs:v5p P D ν σ (ev n f) (.binOp op t x y u) (K []) by obtain⟨s,v,h1,h2,h3⟩:=hs;exact⟨[],s,v,h1,h2,fun w oo ho _ _=>h3 w oo ho⟩
 simp only[Jv] at h;have kx:=k.e x;have ky:=k.e y;split at h
 .split at h;case h_2=>exact h.elim
  rename_i b ms hx hu;rw[hx] at kx;have hi:(ev n f x= .nilIface/\b=true)\/(∃t' p,ev n f x= .iface t' p/\b=false):=by
   generalize ev n f x=u at kx;cases kx with
   |f hf=>
    cases hf with
    |ifcN=>exact .inl ⟨rfl,rfl⟩
    |ifcS t' p=>exact .inr ⟨t',p,rfl,rfl⟩
  have hy:ev n f (.const .nilIface)= .nilIface:=rfl;split at h
  .refine⟨_,_,h,.f (.bool _),fun w oo ho=> ?_⟩;rcases hi with ⟨h1,rfl⟩|⟨t',p,h1,rfl⟩<;>simp[execOp,ho,h1,hy,eqGuard,binOp,Op.equal,Op.maxDepth,z8l hu 9999,z8m hu 9999]
  .refine⟨_,_,h,.f (.bool _),fun w oo ho=> ?_⟩;rcases hi with ⟨h1,rfl⟩|⟨t',p,h1,rfl⟩<;>simp[execOp,ho,h1,hy,eqGuard,binOp,Op.equal,Op.maxDepth,z8l hu 9999,z8m hu 9999]
  .exact h.elim
 unfold binS at h;split at h
 .rename_i k1 a k2 b hx hy;have hx':=Gf (hx▸kx);have hy':=Gf (hy▸ky);split at h
  .exact v1c hx' hy' (.inl ⟨rfl,rfl⟩) h.1 h.2
  .exact v1c hx' hy' (.inr ⟨rfl,rfl⟩) h.1 h.2
  .obtain⟨hk,h⟩:=J1 h;exact w8m hx' hy' hk (.inl ⟨rfl,rfl⟩) h
  .obtain⟨hk,h⟩:=J1 h;exact w8m hx' hy' hk (.inr (.inl ⟨rfl,rfl⟩)) h
  .obtain⟨hk,h⟩:=J1 h;exact w8m hx' hy' hk (.inr (.inr ⟨rfl,rfl⟩)) h
  .obtain⟨hk,h2⟩:=J1 h;have hk':k1=k2:=by simpa using hk
   clear h;subst hk';exact y4c hx' hy' h2
 .rename_i a b hx hy;exact y4d (Hf (hx▸kx)) (Hf (hy▸ky)) h
 .rename_i T l hx hy;have hr:=v5q (hx▸kx);have hy':ev n f y= .slice none 0 0:=z2h (hy▸ky);obtain⟨a,cap,hv,_,_,hel⟩:=hr.toRSl hD;have hnil:a.isNone=true->l=[]:=fun ha=>by
   cases l with
   |nil=>rfl
   |cons z l=>
    obtain⟨ad,_,ha',_⟩:=hel 0 z rfl;subst ha';cases ha
  split at h;case h_2=>exact h.elim
  rename_i el hu;split at h
  .exact⟨_,_,h a.isNone hnil,.f (.bool _),fun w oo ho=>by
    simp[execOp,ho,hv,hy',eqGuard,binOp,Op.equal,Op.maxDepth,Lib.run_equalIn_slice_nil w 9999 t el a l.length cap 0 0 hu]⟩
  .exact⟨_,_,h (!a.isNone) (fun ha=>hnil (by simpa using ha)),.f (.bool _),fun w oo ho=>by
    simp[execOp,ho,hv,hy',eqGuard,binOp,Op.equal,Op.maxDepth,Lib.run_equalIn_slice_nil w 9999 t el a l.length cap 0 0 hu]⟩
  .exact h.elim
 .rename_i o off hx hy;split at h;case h_2=>exact h.elim
  rename_i el hu;have kx':SRep D ν σ (ev n f x) (.ref o off):=hx▸kx;have ky':SRep D ν σ (ev n f y) (.f .nilp):=hy▸ky;have hu':P.underlying t=some (.pointer (P.pointee t)):=by rw[hu];simp[Program.pointee,hu]
  obtain⟨a,hv⟩: ∃a,ev n f x= .pointer (some a):=by
   generalize ev n f x=u at kx';cases kx' with
   |ref _ _ b _=>exact⟨_,rfl⟩
  have hv':ev n f y= .pointer none:=by
   generalize ev n f y=u at ky';cases ky' with
   |f hf=>cases hf;rfl
  split at h
  .exact⟨_,_,h,.lit false,fun w oo ho=>by
    simp[execOp,ho,hv,hv',eqGuard,binOp,Op.equal,Op.maxDepth,run_equalIn_pointer_nil w 9999 t (some a) hu']⟩
  .exact⟨_,_,h,.lit true,fun w oo ho=>by
    simp[execOp,ho,hv,hv',eqGuard,binOp,Op.equal,Op.maxDepth,run_equalIn_pointer_nil w 9999 t (some a) hu']⟩
  .exact h.elim
 .rename_i l l' hx hy;split at h;case h_2=>exact h.elim
  rename_i ks hq;obtain⟨hg,h⟩:=J1 h;obtain⟨q,hc,h⟩:=Ql h;have kx':SRep D ν σ (ev n f x) (.agg l):=hx▸kx;have ky':SRep D ν σ (ev n f y) (.agg l'):=hy▸ky;obtain⟨cs,hv,h1,h2⟩:=v5r kx';obtain⟨cs',hv',h1',h2'⟩:=v5r ky';obtain⟨c1,c2,hiff⟩:=w1c hc h1 h1' h2 h2';have hg':P.eqGuardType P.depth t=false:=by simpa using hg
  have run: ∀w,(Op.equalIn 10000 t (.agg cs.toArray) (.agg cs'.toArray)).run P w= .ok (@decide q.1 q.2) w:=by
   intro w;obtain⟨r,hr,hi⟩:=v5m hq c1 c2 9998 w;rw[hr];have:r= @decide q.1 q.2:=by
    cases r with
    |true=>exact (@decide_eq_true _ q.2 (hiff.2 (hi.1 rfl))).symm
    |false=>exact (@decide_eq_false _ q.2 fun hp=>absurd (hi.2 (hiff.1 hp)) (by simp)).symm
   rw[this]
  split at h
  .exact⟨_,_,h,.pb _ _,fun w oo ho=>by
    simp[execOp,ho,hv,hv',run_eqGuard_agg w .eql t x y _ _ hg',run_eql_struct,run w]⟩
  .exact⟨_,_,h,.pbn _ _,fun w oo ho=>by
    simp[execOp,ho,hv,hv',run_eqGuard_agg w .neq t x y _ _ hg',run_neq_struct,run w]⟩
  .exact h.elim
 .split at h;case h_2=>exact h.elim
  rename_i a b hu ha hb;have hx':=j7f kx ha;have hy':=j7f ky hb;split at h
  .exact⟨_,_,h,.pb _ _,fun w oo ho=>by
    simp[execOp,ho,hx',hy',eqGuard,run_eql_bool _ _ _ _ hu]
    cases a<;>cases b<;>rfl⟩
  .exact⟨_,_,h,.pbn _ _,fun w oo ho=>by
    simp[execOp,ho,hx',hy',eqGuard,run_neq_bool _ _ _ _ hu]
    cases a<;>cases b<;>rfl⟩
  .exact h.elim
theorem y97{t:TypeId}{x:Operand}(k:Kn D ν σ n f w e ob lkc oh)(h:Jv P D e ob lkc (.unOp .not t x) K):q0v P D ν σ ob oh (ev n f) (.unOp .not t x) K:=by
 simp only[Jv] at h;have hx:=k.e x;generalize hvx:ev n f x=vx at hx;generalize e x=sx at h hx;cases hx with
 |lit b=>exact⟨_,_,_,h,.lit _,fun w oo ho _ _=>by simp[execOp,ho,hvx,Op.unary]⟩
 |f hf=>
  cases hf with
  |bool b=>exact⟨_,_,_,h,.pbn _ _,fun w oo ho _ _=>by cases b<;>simp[execOp,ho,hvx,Op.unary]⟩
  |_=>exact h.elim
 |pb p d=>exact⟨_,_,_,h,.pbn _ _,fun w oo ho _ _=>by simp[execOp,ho,hvx,Op.unary]⟩
 |pbn p d=>exact⟨_,_,_,h,.pb _ _,fun w oo ho _ _=>by simp[execOp,ho,hvx,Op.unary]⟩
 |_=>exact h.elim
theorem y98{t:TypeId}{x:Operand}(k:Kn D ν σ n f w e ob lkc oh)(h:Jv P D e ob lkc (.unOp .neg t x) K):q0v P D ν σ ob oh (ev n f) (.unOp .neg t x) K:=by
 simp only[Jv] at h;split at h;case h_2=>exact h.elim
 rename_i kd a hx;obtain⟨r,hK,hr⟩:=z65 h;exact⟨_,_,_,hK,.f (.int kd r),fun w oo ho _ _=>by simp only[execOp,ho,Gf (hx▸k.e x),Op.unary,Op.intArith,hr];rfl⟩
theorem v5s{s d:TypeId}{x:Operand}(hP:D.OkP P)(k:Kn D ν σ n f w e ob lkc oh)(h:Jv P D e ob lkc (.convert s d x) K):q0v P D ν σ ob oh (ev n f) (.convert s d x) K:=by
 simp only[Jv] at h;split at h
 .rename_i k1 a k2 k' hx h1 h2;obtain⟨r,hK,hr⟩:=z65 h;refine⟨_,_,_,hK,.f (.int k' r),fun w oo ho _ _=> ?_⟩;subst hr;simp[execOp,ho,Gf (hx▸k.e x),convert,run_underlying h1,run_underlying h2,Conv.intToInt]
 .rename_i a hx h1 h2;exact⟨_,_,_,h,.f (.str a),fun w oo ho _ _=>by simp[execOp,ho,Hf (hx▸k.e x),convert,run_underlying h1,run_underlying h2]⟩
 .rename_i k1 a k2 hx h1 h2;exact⟨_,_,_,h,.f (.str _),fun w oo ho _ _=>by simp[execOp,ho,Gf (hx▸k.e x),convert,run_underlying h1,run_underlying h2,Conv.intToString]⟩
 .rename_i o el hx h1 h2;split at h;case h_2=>exact h.elim
  rename_i T g ety T' l h3 hb hob;obtain⟨e1,h⟩:=q58 h;subst e1;obtain⟨hs1,hg⟩:=hP.unb _ _ hb;obtain⟨ns,hnl,hns,hgl⟩:=hg l;have hR:=(k.o o _ hob).1;obtain⟨v,xs,hν,hh,hE,hl⟩:=hR;have hxv:=Uo (hx▸k.e x) hν;rw[hgl] at h;refine⟨_,_,.string (strOfNums ns),h,.f (.str _),fun w oo ho _ hok=> ?_⟩;have hok:(vec v ety (D.size T') l.length xs).ok w:=hh▸hok o (by simp) _ hob;have hrun:(convert s d v).run P w= .ok (.string (strOfNums ns)) w:=by
   rcases (q2k hok).2 with ⟨rfl,h0⟩|⟨b,cap,rfl,_⟩
   .have:ns=[]:=List.eq_nil_of_length_eq_zero (by omega);subst this;exact run_convert_bytes_nil w s el h1 h3 0 0 d h2
   .have hrow:=j2x hok;refine run_convert_bytes_arg w s el h1 h3 b 0 l.length cap ns hnl (fun i hi=> ?_) d h2;have hx':l[i]? =some l[i]:=List.getElem?_eq_getElem hi;have hr:=hE.2 i _ hx';rw[hns i _ hx',hs1,Nat.mul_one] at hr;have hlen:=hE.1;rw[hs1,Nat.mul_one] at hlen;obtain⟨u0,hxi⟩: ∃u0,xs[i]? =some u0:=⟨_,List.getElem?_eq_getElem (by omega)⟩;have h0:=hr.2 0 u0 (.int .u8 (ns.getD i 0)) (by rw[List.getElem?_take,if_pos (by decide),List.getElem?_drop,Nat.add_zero];exact hxi) rfl;have hc:=hrow i _ hxi;rw[Jq] at hc;rw[hc];cases h0;rfl
  simp only[execOp,ho,hxv,Sem.run_bind,hrun,Result.andThen_ok];rfl
 .exact h.elim
theorem q0z{v:Value}{s:SV S}{l:List (SV S)}(hs:SRep D ν σ v s)(h:z8k s=some l):RowS D ν σ v.cells.toList l:=by
 have one: ∀{v:Value} {s:SV S},SRep D ν σ v s->v.cells= #[v]->v.oneCell'=true->RowS D ν σ v.cells.toList [s]:=by
  intro v s hs hc h1;rw[hc];refine⟨rfl,fun j u t hj ht=> ?_,fun u hu=> ?_⟩
  .cases j with
   |zero=>cases hj;cases ht;exact hs
   |succ j=>cases hj
  .simp at hu;subst hu;exact h1
 cases hs with
 |f hf=>cases h;exact one (.f hf) hf.cells hf.one
 |lit b=>cases h;exact one (.lit b) rfl rfl
 |pb p d=>cases h;exact one (.pb p d) rfl rfl
 |pbn p d=>cases h;exact one (.pbn p d) rfl rfl
 |agg cs ss hl h' h1=>cases h;exact⟨hl,h',h1⟩
 |tup=>cases h
 |arr=>cases h
 |ref o off b hν=>cases h;exact one (.ref o off b hν) rfl rfl
 |eref T o i off b m cap hν hi=>cases h;exact one (.eref T o i off b m cap hν hi) rfl rfl
 |aref T N o i off b hν hi=>cases h;exact one (.aref T N o i off b hν hi) rfl rfl
 |fptr ad cs l off hr hR=>cases h;exact one (.fptr ad cs l off hr hR) rfl rfl
 |fap ad cs T N l hN hr hl hR=>cases h;exact one (.fap ad cs T N l hN hr hl hR) rfl rfl
 |hnd o v hν h1=>
  cases h;refine one (.hnd o _ hν h1) ?_ h1;cases v<;>first|rfl|cases h1
 |cut o sz lo hi a len cap hν h0 hc=>cases h;exact one (.cut o sz lo hi a len cap hν h0 hc) rfl rfl
 |fn g a b first cap h1 h2 h3 h4=>cases h;exact one (.fn g a b first cap h1 h2 h3 h4) rfl rfl
 |und=>cases h
 |dead=>cases h
theorem j7g{cs vs:List Value}{l ss:List (SV S)}{off:Nat}(h:RowS D ν σ cs l)(k:RowS D ν σ vs ss)(hle:off+ss.length<=l.length):
  RowS D ν σ (cs.take off++vs++cs.drop (off+vs.length)) (l.take off++ss++l.drop (off+ss.length)):=by
 have e1:=h.1;have e2:=k.1;refine⟨by simp only[List.length_append,List.length_take,List.length_drop];omega,fun j v s hj hs=> ?_,fun v hv=> ?_⟩
 .have t1:(cs.take off).length=off:=by rw[List.length_take];omega
  have t2:(l.take off).length=off:=by rw[List.length_take];omega
  rw[List.append_assoc] at hj hs;rcases Nat.lt_or_ge j off with hlt|hge
  .rw[List.getElem?_append_left (by omega)] at hj hs;rw[List.getElem?_take_of_lt hlt] at hj hs;exact h.2.1 j v s hj hs
  .rw[List.getElem?_append_right (by omega)] at hj hs;rw[t1] at hj;rw[t2] at hs;rcases Nat.lt_or_ge (j - off) ss.length with hlt|hge'
   .rw[List.getElem?_append_left (by omega)] at hj hs;exact k.2.1 _ v s hj hs
   .rw[List.getElem?_append_right (by omega)] at hj hs;rw[List.getElem?_drop] at hj hs;have e3:off+vs.length+(j - off - vs.length)=off+ss.length+(j - off - ss.length):=by omega
    rw[e3] at hj;exact h.2.1 _ v s hj hs
 .rcases List.mem_append.1 hv with hv|hv
  .rcases List.mem_append.1 hv with hv|hv
   .exact h.2.2 v (List.mem_of_mem_take hv)
   .exact k.2.2 v hv
  .exact h.2.2 v (List.mem_of_mem_drop hv)
theorem j7h(vs:List Value): ∀(cs:List Value) (off:Nat),off+vs.length<=cs.length->
  ((vs.zipIdx).foldl (fun (a:Array Value) (q:Value×Nat)=>a.setIfInBounds (off+q.2) q.1) cs.toArray)=(cs.take off++vs++cs.drop (off+vs.length)).toArray:=by
 suffices H: ∀(vs:List Value) (k:Nat) (cs:List Value) (off:Nat),off+k+vs.length<=cs.length->
   ((vs.zipIdx k).foldl (fun (a:Array Value) (q:Value×Nat)=>a.setIfInBounds (off+q.2) q.1) cs.toArray)=(cs.take (off+k)++vs++cs.drop (off+k+vs.length)).toArray by
  intro cs off h;simpa using H vs 0 cs off (by omega)
 intro vs
 induction vs with
 |nil=>intro k cs off h;simp
 |cons v vs ih=>
  intro k cs off h;simp only[List.length_cons] at h;rw[List.zipIdx_cons,List.foldl_cons];have e1:(cs.toArray.setIfInBounds (off+k) v)=(cs.set (off+k) v).toArray:=by simp
  rw[e1,ih (k+1) (cs.set (off+k) v) off (by simp;omega)];congr 1;have hlt:off+k<cs.length:=by omega
  have e2:(cs.set (off+k) v).take (off+(k+1))=cs.take (off+k)++[v]:=by rw[<-Nat.add_assoc,List.take_add_one,List.take_set_of_le (Nat.le_refl _)];simp[hlt]
  have e3:(cs.set (off+k) v).drop (off+(k+1)+vs.length)=cs.drop (off+k+(v::vs).length):=by rw[List.drop_set_of_lt (by omega)];congr 1;simp;omega
  rw[e2,e3];simp
theorem v5t{place:Nat->Option (Nat×Nat)}{r:Operand->Value}(hr: ∀x,SRep D ν σ (r x) (e x)): ∀(parts:List (Nat×Operand)) (cs:List Value) (l l':List (SV S)),RowS D ν σ cs l->
  v5k place l (parts.map fun q=>(q.1,e q.2))=some l'-> ∃cs',RowS D ν σ cs' l'/\Instr.fill place cs.toArray (parts.map fun q=>(q.1,r q.2))=some cs'.toArray:=by
 intro parts
 induction parts with
 |nil=>intro cs l l' h hf;cases hf;exact⟨cs,h,rfl⟩
 |cons q parts ih=>
  intro cs l l' h hf;simp only[List.map_cons,v5k] at hf;split at hf
  .rename_i off k ss hp hc;have hc':=q0z (hr q.2) hc;cases hb:(Nat.beq ss.length k && Nat.ble (off+k) l.length) with
   |false=>rw[hb] at hf;cases hf
   |true=>
    rw[hb] at hf;obtain⟨h1,h2⟩:=Q6 hb;have h1:=e9 h1;have h2:=Nat.le_of_ble_eq_true h2;subst h1;have hs:=j7g h hc' h2;obtain⟨cs',hr',hf'⟩:=ih _ _ _ hs hf;refine⟨cs',hr',?_⟩;have el:=hc'.1;have el2:=h.1;rw[List.map_cons,Instr.fill];simp only[hp];rw[if_neg (by simp only[Bool.or_eq_true,decide_eq_true_eq,ne_eq,List.size_toArray];rw[<-Array.length_toList,el];omega)];have:=j7h (r q.2).cells.toList cs off (by rw[el,el2];exact h2);rw[el] at this;rw[<-hf'];congr 1;rw[el,<-this,<-Array.foldl_toList,Array.toList_zipIdx]
  .cases hf
theorem j6h{cs:List Value}(h:cs.all isZ=true):RowS D ν σ cs (cs.map fun v=>SV.f (w09 v)):=by
 have key: ∀v,isZ v=true->RepF D σ v (w09 v):=by
  intro v hv;unfold isZ at hv;split at hv
  .exact .bool _
  .exact .int _ _
  .exact .str _
  .exact .nils
  .exact .nilp
  .exact .nilm
  .exact .nilf
  .cases hv
 refine⟨by simp,fun j v s hj hs=> ?_,fun v hv=> ?_⟩
 .rw[List.getElem?_map,hj] at hs;cases hs;exact .f (key v ((List.all_eq_true.1 h) v (List.mem_of_getElem? hj)))
 .exact (key v ((List.all_eq_true.1 h) v hv)).one
theorem y7t{ob:Nat->Option (AO S)}{lkc:Nat->Nat->SV S}{oh:Nat->HObj}{e:Operand->SV S}{o:Op}{K':SV S->Prop}(k:Kn D ν σ n f w e ob lkc oh)(h:wrpS e o K'):q0v P D ν σ ob oh (ev n f) o fun _ s=>K' s:=by
 unfold wrpS at h;split at h;case h_2=>exact h.elim
 rename_i op t x y u;have kx:=k.e x;have ky:=k.e y;split at h;case h_2=>exact h.elim
 rename_i k1 a k2 b hx hy;have hx':=Gf (hx▸kx);have hy':=Gf (hy▸ky);obtain⟨hk,h2⟩:=J1 h;have hk':k1=k2:=by simpa using hk
 clear h;subst hk';have run: ∀(w:World) (oo:Oper) (v:Value),oo.op= .binOp op t x y u->(binOp op t (.int k1 a) (.int k1 b)).run P w= .ok v w->(execOp (ev n f) oo).run P w= .ok (.value v) w:=by
  intro w oo v ho hr;have hg:(eqGuard op t x y (.int k1 a) (.int k1 b)).run P w= .ok () w:=by unfold eqGuard;split<;>simp
  simp[execOp,ho,hx',hy',hg,hr]
 split at h2
 .exact⟨[],_,_,h2,.f (.int k1 _),fun w oo ho _ _=>run w oo _ ho (by simp[binOp,Op.intArith])⟩
 .exact⟨[],_,_,h2,.f (.int k1 _),fun w oo ho _ _=>run w oo _ ho (by simp[binOp,Op.intArith])⟩
 .exact⟨[],_,_,h2,.f (.int k1 _),fun w oo ho _ _=>run w oo _ ho (by simp[binOp,Op.intArith])⟩
 .exact h2.elim
end Go.Fx
end
noncomputable section
namespace Go.Fx
open Go Go.RowKit Go.Fl Go.Fl.Lk
variable {S:Sig}{P:Program}{D:Shp S}{ν:Nm}{σ:Hv}{n:Nat}{f:Fr}
variable {w:World}{e:Operand->SV S}{ob:Nat->Option (AO S)}{lkc:Nat->Nat->SV S}{oh:Nat->HObj}{K:List Nat->SV S->Prop}
theorem w8n{fs:Array Field}(hT:fs.toList.all (fun f=>hasT P f.type)=true)(w:World):
  (fs.mapM fun f=>(do pure (f.offset,<-sizeOf f.type):Sem (Nat×Nat))).run P w= .ok (fs.map fun f=>(f.offset,szQ P f.type)) w:=by
 have key: ∀(l:List Field) (w:World),l.all (fun f=>hasT P f.type)=true->(l.mapM fun f=>(do pure (f.offset,<-sizeOf f.type):Sem (Nat×Nat))).run P w= .ok (l.map fun f=>(f.offset,szQ P f.type)) w:=by
  intro l
  induction l with
  |nil=>intro w _;rfl
  |cons x l ih=>
   intro w h;obtain⟨h1,h2⟩:hasT P x.type=true/\l.all (fun f=>hasT P f.type)=true:=by simpa using h
   rw[List.mapM_cons];simp only[Sem.run_bind,Un h1,Result.andThen_ok,Sem.run_pure,ih w h2,List.map_cons]
 have:=key fs.toList w hT;rw[Array.mapM_eq_mapM_toList,map_eq_pure_bind];simp only[Sem.run_bind,this,Result.andThen_ok,Sem.run_pure];congr 1;apply Array.ext';simp
theorem y4f{t:TypeId}{parts:Array (Nat×Operand)}(k:Kn D ν σ n f w e ob lkc oh)(h:Jv P D e ob lkc (.build t parts) K):q0v P D ν σ ob oh (ev n f) (.build t parts) K:=by
 have zr: ∀{z:Value},(P.info? t).bind (·.zero)=some z-> ∀w,(zeroValue t).run P w= .ok z w:=by intro z hz w;obtain⟨i,hi,hz⟩:=Option.bind_eq_some_iff.1 hz;simp[zeroValue,typeInfo,hi,hz]
 have hparts:(parts.map fun (i,x)=>(i,ev n f x)).toList=parts.toList.map fun q=>(q.1,ev n f q.2):=by simp
 simp only[Jv] at h;split at h
 .rename_i fs z hu hz;obtain⟨hc,h⟩:=J1 h;obtain⟨hz1,hT⟩:=Q6 hc;obtain⟨l,hf,hK⟩:=Ql h;obtain⟨cs',hr,hfill⟩:=v5t (D:=D) (ν:=ν) (σ:=σ) (r:=ev n f) k.e parts.toList _ _ _ (j6h hz1) hf;refine⟨_,_,.agg cs'.toArray,hK,.agg cs' l hr.1 hr.2.1 hr.2.2,fun w oo ho _ _=> ?_⟩;have hpl:(fun (i:Nat)=>(fs.map fun f=>(f.offset,szQ P f.type))[i]?)=fun i=>(fs[i]?).map fun f=>(f.offset,szQ P f.type):=by funext i;simp
  simp only[execOp,ho,Instr.build,Sem.run_bind,zr hz,Result.andThen_ok,run_underlying hu,w8n hT,hparts,hpl];rw[Array.toArray_toList] at hfill;rw[hfill];rfl
 .rename_i len el z hu hz;obtain⟨hc,h⟩:=J1 h;obtain⟨hz1,hT⟩:=Q6 hc;obtain⟨l,hf,hK⟩:=Ql h;obtain⟨cs',hr,hfill⟩:=v5t (D:=D) (ν:=ν) (σ:=σ) (r:=ev n f) k.e parts.toList _ _ _ (j6h hz1) hf;refine⟨_,_,.agg cs'.toArray,hK,.agg cs' l hr.1 hr.2.1 hr.2.2,fun w oo ho _ _=> ?_⟩;simp only[execOp,ho,Instr.build,Sem.run_bind,zr hz,Result.andThen_ok,run_underlying hu,Un hT,hparts];rw[Array.toArray_toList] at hfill;rw[hfill];rfl
 .exact h.elim
theorem y4g{t:TypeId}{x j:Operand}(hD:D.Ok)(k:Kn D ν σ n f w e ob lkc oh)(h:Jv P D e ob lkc (.index t x j) K):q0v P D ν σ ob oh (ev n f) (.index t x j) K:=by
 simp only[Jv] at h;split at h;case h_2=>exact h.elim
 rename_i i hj;have hj':=Gf (hj▸k.e j);split at h
 .rename_i len el T N l hu hx;obtain⟨hc,⟨h0,h1⟩,h⟩:=J1 h;obtain⟨hc,hN⟩:=Q6 hc;obtain⟨hc,hsz⟩:=Q6 hc;obtain⟨hT,hA⟩:=Q6 hc;have hA:aggQ P el=false:=by simpa using hA
  have hN:=e9 hN;have hsz:=e9 hsz;have hr:=hx▸k.e x;generalize hvx:ev n f x=vx at hr;cases hr with
  |arr cs _ _ _ hN' hl hrow=>
   obtain⟨y,hy⟩:=getq (l:=l) (k:=i.toNat) (by omega);obtain⟨s,hs,hK⟩:=Ql (h y hy);obtain⟨v,hv,_,hp⟩:=j7d (D:=D) (ν:=ν) ((hrow _ y hy).toS) hs;refine⟨_,_,v,hK,hv,fun w oo ho _ _=> ?_⟩;have hlt:i.toNat*D.size T<cs.length:=by
    rw[hl];have:i.toNat<l.length:=by omega
    have h2:(i.toNat+1)*D.size T<=l.length*D.size T:=Nat.mul_le_mul_right _ this;rw[Nat.add_mul,Nat.one_mul] at h2;have:=hD.pos T;omega
   have hpart:(part el cs.toArray (i.toNat*szQ P el)).run P w= .ok v w:=by
    have:=hp w;simp only[part,Sem.run_bind,q9p hT,Result.andThen_ok,hA,Bool.false_eq_true,if_false] at this⊢;have e1:cs.toArray[i.toNat*szQ P el]? =((cs.drop (i.toNat*D.size T)).take (D.size T)).toArray[0]? :=by rw[hsz];simp only[List.getElem?_toArray];rw[List.getElem?_take,if_pos (hD.pos T)];simp
    rw[e1];exact this
   have hb:0<=i/\i<(len:Int):=⟨h0,h1⟩;simp only[execOp,ho,hvx,hj',Instr.index,asIntOf,Sem.run_bind,Sem.run_pure,Result.andThen_ok,run_underlying hu,if_pos hb,Un hT,hpart]
 .rename_i s hu hx;obtain⟨⟨h0,h1⟩,h⟩:=h;have hlt:i.toNat<s.size:=by omega
  obtain⟨b,hb⟩: ∃b,s[i.toNat]? =some b:=⟨s[i.toNat],by simp[hlt]⟩;refine⟨_,_,_,h b hb,.f (.int .u8 _),fun w oo ho _ _=> ?_⟩;simp[execOp,ho,Hf (hx▸k.e x),hj',Instr.index,asIntOf,run_underlying hu,h0,hb]
 .exact h.elim
theorem v92{o:Nat}{v:Value}{a:AO S}{ety:TypeId}{T:S.C}{l:List (S.car T)}(k:Kn D ν σ n f w e ob lkc oh)(hν:ν o=some v)(ho:ob o=some a)(ha:a= .vec ety T l): ∃ad cap,v= .slice ad l.length cap/\l.length<=140737488355328:=by subst ha;obtain⟨hR,hok⟩:=k.o o _ ho;obtain⟨v',xs,hν',hh,hE,hb⟩:=hR;rw[hν] at hν';cases hν';rw[hh] at hok;obtain⟨a,cap,hv⟩:=j65 hok;exact⟨a,cap,hv,hb⟩
theorem y99{args:Array Operand}{ts:Array TypeId}(hD:D.Ok)(k:Kn D ν σ n f w e ob lkc oh)(h:Jv P D e ob lkc (.call ⟨.builtin .len,args,ts⟩) K):q0v P D ν σ ob oh (ev n f) (.call ⟨.builtin .len,args,ts⟩) K:=by
 simp only[Jv] at h;split at h;case h_2=>exact h.elim
 rename_i x t ha ht;have ha':args= #[x]:=by apply Array.ext';simpa using ha
 have ht':ts= #[t]:=by apply Array.ext';simpa using ht
 subst ha' ht';have runS: ∀(el:TypeId) (a:Option Addr) (len cap:Nat),P.underlying t=some (.slice el)->ev n f x= .slice a len cap-> ∀(w:World) (oo:Oper),oo.op= .call ⟨.builtin .len,#[x],#[t]⟩->(execOp (ev n f) oo).run P w= .ok (.value (.int .i64 ((len:Nat):Int))) w:=by intro el a len cap hu hv w oo ho;simp[execOp,ho,hv,resolve,invoke,builtin,Builtin.len_,run_underlying hu,goInt]
 have runT: ∀(s:BA),P.underlying t=some .string->ev n f x= .string s-> ∀(w:World) (oo:Oper),oo.op= .call ⟨.builtin .len,#[x],#[t]⟩->(execOp (ev n f) oo).run P w= .ok (.value (.int .i64 ((s.size:Nat):Int))) w:=by intro s hu hv w oo ho;simp[execOp,ho,hv,resolve,invoke,builtin,Builtin.len_,run_underlying hu,goInt]
 have hx:=k.e x;split at h
 .rename_i el hu;generalize hvx:ev n f x=vx at hx;generalize e x=sx at h hx;cases hx with
  |f hf=>
   cases hf with
   |sl T l a cap c h1 h2 h3 h4=>exact⟨_,_,_,h (by omega),.f (.int _ _),fun w oo ho _ _=>runS el a _ cap hu hvx w oo ho⟩
   |nils=>exact⟨_,_,_,h,.f (.int _ _),fun w oo ho _ _=>runS el none 0 0 hu hvx w oo ho⟩
   |_=>exact h.elim
  |hnd o v hν h1=>
   simp only[lenS] at h;cases ho:ob o with
   |none=>rw[ho] at h;exact h.elim
   |some a=>
    rw[ho] at h;cases a with
    |vec ety T l=>
     obtain⟨ad,cap,hv,hb⟩:=v92 k hν ho rfl;exact⟨_,_,_,h (by omega),.f (.int _ _),fun w oo hoo _ _=>runS el ad _ cap hu (hvx.trans hv) w oo hoo⟩
    |frz T l=>
     obtain⟨hR,_⟩:=k.o o _ ho;obtain⟨v',hν',_,hr⟩:=hR;rw[hν] at hν';cases hν';obtain⟨ad,cap,hv,h1,h2,_⟩:=hr.toRSl hD;exact⟨_,_,_,h (by omega),.f (.int _ _),fun w oo hoo _ _=>runS el ad _ cap hu (hvx.trans hv) w oo hoo⟩
    |_=>exact h.elim
  |_=>exact h.elim
 .rename_i hu;split at h
  .rename_i s hs;exact⟨_,_,_,h,.f (.int _ _),fun w oo ho _ _=>runT s hu (Hf (hs▸hx)) w oo ho⟩
  .exact h.elim
 .exact h.elim
theorem v5u(a b:BA)(w:World):(Op.stringOp .leq a b).run P w= .ok (.bool (!decide (blt b a))) w:=by have lt:Op.bytesLess a.toList b.toList=decide (blt a b):=w2e a b;have:=w8f a b;simp only[Op.stringOp,lt,z4t];rw[show (decide (blt a b)||decide (a=b))= !decide (blt b a) by rw[<-this];simp];rfl
theorem v5v(a b:BA)(w:World):(Op.stringOp .geq a b).run P w= .ok (.bool (!decide (blt a b))) w:=by have lt:Op.bytesLess a.toList b.toList=decide (blt a b):=w2e a b;simp only[Op.stringOp,lt];rfl
theorem u0a{args:Array Operand}{ts:Array TypeId}(k:Kn D ν σ n f w e ob lkc oh)(h:Jv P D e ob lkc (.call ⟨.builtin .min,args,ts⟩) K):q0v P D ν σ ob oh (ev n f) (.call ⟨.builtin .min,args,ts⟩) K:=by
 have hm: ∀a b:Int,min a b=(if b<a then b else a):=by intro a b;omega
 simp only[Jv] at h;split at h
 .rename_i x y ha;have ha':args= #[x,y]:=by apply Array.ext';simpa using ha
  subst ha';split at h;case h_3=>exact h.elim
  .rename_i k1 a k2 b hx hy;obtain⟨hk,h⟩:=J1 h;exact⟨_,_,_,h,.f (.int _ _),fun w oo ho _ _=>by simp[execOp,ho,Gf (hx▸k.e x),Gf (hy▸k.e y),resolve,invoke,builtin,Builtin.min_,Builtin.min2,hm]⟩
  .rename_i a b hx hy;by_cases hb:blt b a
   .exact⟨_,_,_,h.1 hb,.f (.str _),fun w oo ho _ _=>by simp[execOp,ho,Hf (hx▸k.e x),Hf (hy▸k.e y),resolve,invoke,builtin,Builtin.min_,Builtin.min2,v5u,hb,asBool]⟩
   .exact⟨_,_,_,h.2 hb,.f (.str _),fun w oo ho _ _=>by simp[execOp,ho,Hf (hx▸k.e x),Hf (hy▸k.e y),resolve,invoke,builtin,Builtin.min_,Builtin.min2,v5u,hb,asBool]⟩
 .rename_i x y z ha;have ha':args= #[x,y,z]:=by apply Array.ext';simpa using ha
  subst ha';split at h;case h_2=>exact h.elim
  rename_i k1 a k2 b k3 c hx hy hz;obtain⟨hk,h⟩:=J1 h;exact⟨_,_,_,h,.f (.int _ _),fun w oo ho _ _=>by simp[execOp,ho,Gf (hx▸k.e x),Gf (hy▸k.e y),Gf (hz▸k.e z),resolve,invoke,builtin,Builtin.min_,Builtin.min2,hm]⟩
 .exact h.elim
theorem u0b{args:Array Operand}{ts:Array TypeId}(k:Kn D ν σ n f w e ob lkc oh)(h:Jv P D e ob lkc (.call ⟨.builtin .max,args,ts⟩) K):q0v P D ν σ ob oh (ev n f) (.call ⟨.builtin .max,args,ts⟩) K:=by
 have hm: ∀a b:Int,max a b=(if b>a then b else a):=by intro a b;omega
 simp only[Jv] at h;split at h
 .rename_i x y ha;have ha':args= #[x,y]:=by apply Array.ext';simpa using ha
  subst ha';split at h;case h_3=>exact h.elim
  .rename_i k1 a k2 b hx hy;obtain⟨hk,h⟩:=J1 h;exact⟨_,_,_,h,.f (.int _ _),fun w oo ho _ _=>by simp[execOp,ho,Gf (hx▸k.e x),Gf (hy▸k.e y),resolve,invoke,builtin,Builtin.max_,Builtin.max2,hm]⟩
  .rename_i a b hx hy;by_cases hb:blt a b
   .exact⟨_,_,_,h.1 hb,.f (.str _),fun w oo ho _ _=>by simp[execOp,ho,Hf (hx▸k.e x),Hf (hy▸k.e y),resolve,invoke,builtin,Builtin.max_,Builtin.max2,v5v,hb,asBool]⟩
   .exact⟨_,_,_,h.2 hb,.f (.str _),fun w oo ho _ _=>by simp[execOp,ho,Hf (hx▸k.e x),Hf (hy▸k.e y),resolve,invoke,builtin,Builtin.max_,Builtin.max2,v5v,hb,asBool]⟩
 .exact h.elim
theorem w1d{lo:Option Operand}{z:Int}{i:Int}(k:Kn D ν σ n f w e ob lkc oh)(h:(match lo with|none=>some z|some o=>match e o with| .f (.int .i64 i)=>some i|_=>none)=some i):
  (lo=none/\i=z)\/ ∃o,lo=some o/\ev n f o= .int .i64 i:=by
 cases lo with
 |none=>cases h;exact .inl ⟨rfl,rfl⟩
 |some o=>
  simp only at h;split at h
  .rename_i j hj;cases h;exact .inr ⟨o,rfl,Gf (hj▸k.e o)⟩
  .cases h
theorem RSl.drop'{α:Type}{size:Nat}{R:Hv->List Value->α->Prop}{a:Option Addr}{len cap:Nat}{l:List α}(h:RSl size R σ (.slice a len cap) l)(k:Nat)(hk:k<=l.length):
  RSl size R σ (.slice (if cap=k then a else a.map (·.add (k*size))) (len - k) (cap - k)) (l.drop k):=by
 obtain⟨a',cap',h1,h2,h3,h4⟩:=h;cases h1;refine⟨_,cap - k,by rw[List.length_drop],by rw[List.length_drop];omega,by rw[List.length_drop];omega,fun i x hx=> ?_⟩;rw[List.getElem?_drop] at hx;obtain⟨ad,cs,rfl,hl,hr,hR⟩:=h4 _ x hx;have hlt:=Qj hx;rw[if_neg (by omega)];refine⟨_,cs,rfl,hl,?_,hR⟩;rw[q2i,<-Nat.add_mul];exact hr
theorem y4h{t:TypeId}{x:Operand}{lo hi:Option Operand}(hD:D.Ok)(k:Kn D ν σ n f w e ob lkc oh)(h:Jv P D e ob lkc (.slice t x lo hi none) K):q0v P D ν σ ob oh (ev n f) (.slice t x lo hi none) K:=by
 simp only[Jv] at h;split at h
 .rename_i hu;split at h;case h_2=>exact h.elim
  rename_i s hx;split at h;case h_2=>exact h.elim
  rename_i l r hl hr;obtain⟨⟨h0,h1,h2⟩,h⟩:=h;have hb: ∀w,(Instr.sliceBounds false s.size s.size (lo.map (ev n f)) (hi.map (ev n f)) none).run P w= .ok (l.toNat,r.toNat,s.size) w:=by
   intro w;have e2:0<=r:=by omega
   have e3:max r 0=r:=by omega
   rcases w1d k hl with ⟨rfl,rfl⟩|⟨o,rfl,ho⟩<;>rcases w1d k hr with ⟨rfl,rfl⟩|⟨o',rfl,ho'⟩<;>clear hl hr<;>
    simp_all [Instr.sliceBounds,Instr.sliceBound,asIntOf]
  exact⟨_,_,_,h,.f (.str _),fun w oo ho _ _=>by
   simp[execOp,ho,Hf (hx▸k.e x),Instr.sliceAt,run_underlying hu,Instr.slice,hb]⟩
 .rename_i el hu;split at h
  case h_2=>
   split at h;case h_2=>exact h.elim
   rename_i o hxe;split at h;case h_2=>exact h.elim
   rename_i ety T li hob;obtain⟨hc,h⟩:=J1 h;obtain⟨hT,hsz⟩:=Q6 hc;have hsz:=e9 hsz;split at h;case h_2=>exact h.elim
   rename_i l r hlo hhi;obtain⟨⟨h0,h1,h2⟩,h⟩:=h;obtain⟨hR,hok⟩:=k.o o _ hob;obtain⟨v,xs,hν,hh,hE,hb0⟩:=hR;rw[hh] at hok;obtain⟨a,cap,hv,hcap⟩:=j6g hok;have hxv:ev n f x=v:=Uo (hxe▸k.e x) hν;rw[hv] at hxv;have hb: ∀w,(Instr.sliceBounds true li.length cap (lo.map (ev n f)) (hi.map (ev n f)) none).run P w= .ok (l.toNat,r.toNat,cap) w:=by
    intro w;have e1:r<=(cap:Int):=by omega
    have e2:0<=r:=by omega
    have e3:max r 0=r:=by omega
    clear hok hh hE
    rcases w1d k hlo with ⟨rfl,rfl⟩|⟨o,rfl,ho⟩<;>rcases w1d k hhi with ⟨rfl,rfl⟩|⟨o',rfl,ho'⟩<;>clear hlo hhi<;>
     simp_all [Instr.sliceBounds,Instr.sliceBound,asIntOf]
   refine⟨_,_,_,h,.cut o (D.size T) l r a li.length cap (by rw[hν,hv]) ⟨h0,h1,h2⟩ hcap,fun w oo ho _ _=> ?_⟩;simp[execOp,ho,hxv,Instr.sliceAt,run_underlying hu,Instr.slice,hb,Un hT,hsz]
  rename_i T li hl;obtain⟨hc,h⟩:=J1 h;obtain⟨hT,hsz⟩:=Q6 hc;have hsz:=e9 hsz;split at h;case h_2=>exact h.elim
  rename_i l r hlo hhi;obtain⟨⟨h0,h1,h2⟩,h⟩:=h;have hrep:=(y2v k hl).toRSl hD;obtain⟨a,cap,hv,hcap,_⟩:=id hrep;rw[hv] at hrep;have hb: ∀w,(Instr.sliceBounds true li.length cap (lo.map (ev n f)) (hi.map (ev n f)) none).run P w= .ok (l.toNat,r.toNat,cap) w:=by
   intro w;have e1:r<=(cap:Int):=by omega
   have e2:0<=r:=by omega
   have e3:max r 0=r:=by omega
   clear hrep hv hl
   rcases w1d k hlo with ⟨rfl,rfl⟩|⟨o,rfl,ho⟩<;>rcases w1d k hhi with ⟨rfl,rfl⟩|⟨o',rfl,ho'⟩<;>clear hlo hhi<;>
    simp_all [Instr.sliceBounds,Instr.sliceBound,asIntOf]
  have h3:=RSl.drop' (RSl.take hrep r.toNat (by omega)) l.toNat (by simp only[List.length_take];omega);refine⟨_,_,_,h,.f (RepF.ofRSl hD h3),fun w oo ho _ _=> ?_⟩;simp[execOp,ho,hv,Instr.sliceAt,run_underlying hu,Instr.slice,hb,Un hT,hsz]
 .exact h.elim
theorem v93{x:FV S}{v:Value}(h:RepF D σ v x)(hk:keyF x=true):v=valF x:=by cases h<;>first|rfl|cases hk
theorem w8o{cs:List Value}{ss:List (FV S)}(h:RowF D σ cs ss)(hk:ss.all keyF=true):cs=ss.map valF:=by
 apply List.ext_getElem?;intro i;rw[List.getElem?_map];rcases hq:ss[i]? with _|x
 .have:ss.length<=i:=List.getElem?_eq_none_iff.1 hq;rw[List.getElem?_eq_none (by rw[h.1];exact this)];rfl
 .obtain⟨v,hv⟩:=getq (l:=cs) (k:=i) (by rw[h.1];exact Qj hq);rw[hv,v93 (h.2 i v x hv hq) ((List.all_eq_true.1 hk) x (List.mem_of_getElem? hq))];rfl
theorem v1d{s:SV S}{v:Value}{x:FV S}{fz:List Nat}(hD:D.Ok)(ho: ∀o a,ob o=some a->ORep D ν σ lkc o a (oh o))(hs:SRep D ν σ v s)(h:toF ob s=some (x,fz)):
  (fz=[]/\RepF D σ v x)\/ ∃o e T l,fz=[o]/\x= .sl T l/\ob o=some (.vec e T l)/\ν o=some v:=by
 have _:=hD;cases hs with
 |f hf=>cases h;exact .inl ⟨rfl,hf⟩
 |lit b=>cases h;exact .inl ⟨rfl,.bool b⟩
 |pb p d=>cases h;exact .inl ⟨rfl,.bool _⟩
 |pbn p d=>cases h;exact .inl ⟨rfl,.bool _⟩
 |hnd o v hν h1=>
  simp only[toF] at h;cases hq:ob o with
  |none=>rw[hq] at h;cases h
  |some a=>
   rw[hq] at h;cases a with
   |vec e T l=>cases h;exact .inr ⟨o,e,T,l,rfl,rfl,hq,hν⟩
   |frz T l=>
    cases h;obtain⟨v',hν',_,hr⟩:=ho o _ hq;rw[hν] at hν';cases hν';exact .inl ⟨rfl,hr⟩
   |_=>cases h
 |_=>cases h
theorem j0q{ss:List (SV S)}{cs:List Value}{xs:List (FV S)}(hD:D.Ok)(ho: ∀o a,ob o=some a->ORep D ν σ lkc o a (oh o))(hs:RowS D ν σ cs ss)(h:toFs ob ss=some (xs,[])):RowF D σ cs xs:=by
 induction ss generalizing cs xs with
 |nil=>cases h;exact⟨hs.1,fun j v s hj hk=>by cases hk⟩
 |cons s ss ih=>
  cases cs with
  |nil=>have:=hs.1;cases this
  |cons c cs=>
   simp only[toFs] at h;split at h;case h_2=>cases h
   rename_i x a hx;split at h;case h_2=>cases h
   rename_i xs' b hxs;injection h with h;injection h with h0 hab;subst h0;obtain⟨rfl,rfl⟩:a=[]/\b=[]:=by simpa using hab
   have h1:=v1d hD ho (hs.2.1 0 c s rfl rfl) hx;have h2:=ih (cs:=cs) ⟨by have:=hs.1;simpa using this,fun j v s hj hk=>hs.2.1 (j+1) v s (by simpa using hj) (by simpa using hk),fun v hv=>hs.2.2 v (by simp[hv])⟩ hxs;rcases h1 with ⟨_,h1⟩|⟨_,_,_,_,h0,_⟩
   .refine⟨by simp[h2.1],fun j v s hj hk=> ?_⟩;cases j with
    |zero=>cases hj;cases hk;exact h1
    |succ j=>exact h2.2 j v s (by simpa using hj) (by simpa using hk)
   .cases h0
theorem z66{s:SV S}{l:List (SV S)}(h:keyS s=some l):z8k s=some l:=by
 unfold keyS at h;split at h
 .exact h
 .cases h
 .exact h
theorem j0r{D:Shp S}{ν:Nm}{σ:Hv}{v:Value}{s:SV S}{l:List (SV S)}(hs:SRep D ν σ v s)(h:keyS s=some l):v=asV v.cells.toList:=by
 cases hs with
 |agg cs ss hl h' h1=>
  match ss,h,hl with
  |a::b::ss,_,hl=>
   match cs,hl with
   |u::u'::cs,_=>rfl
 |f hf=>rw[hf.cells];rfl
 |tup=>cases h
 |arr=>cases h
 |dead=>cases h
 |und=>cases h
 |hnd o v hν h1=>
  have:v.cells= #[v]:=by cases v<;>first|rfl|cases h1
  rw[this];rfl
 |_=>rfl
theorem q7z{K V K' V':S.C}{F:S.car K->Option (S.car V)}{k:(S.car K'->Option (S.car V'))->Prop}(h:z2g K V F K' V' k): ∃(e1:K=K') (e2:V=V'),k (e1▸e2▸F):=by
 unfold z2g at h;split at h
 .exact⟨_,_,h⟩
 .exact h.elim
theorem v94{t:TypeId}{m x:Operand}{okk:Bool}(hP:D.OkP P)(k:Kn D ν σ n f w e ob lkc oh)(h:Jv P D e ob lkc (.lookup t m x okk) K):q0v P D ν σ ob oh (ev n f) (.lookup t m x okk) K:=by
 simp only[Jv] at h;split at h;case h_2=>exact h.elim
 rename_i Kc V kt0 et0 o hmc hu hm;obtain⟨kt,et,hu',hK,hkey,hT,hA,hsz,z,hz,hzr⟩:=hP.map _ _ _ hmc;rw[hu] at hu';cases hu';split at h;case h_2=>exact h.elim
 rename_i K' V' F ks ho hks;obtain⟨q,hq,h⟩:=Ql h;obtain⟨hnil,h⟩:=J1 h;obtain⟨ky,hky,h⟩:=Ql h;obtain⟨e1,e2,h⟩:=q7z h;subst e1 e2;obtain⟨s,hs,hK2⟩:=Ql h;obtain⟨xs,fz⟩:=q;have hfz:fz=[]:=by simpa using hnil
 subst hfz;obtain⟨hR,hok⟩:=k.o o _ ho;obtain⟨b,mm,hν,hh,hF⟩:=hR;have hor: ∀o a,ob o=some a->ORep D ν σ lkc o a (oh o):=fun o a h=>(k.o o a h).1
 have hrow:=j0q hP.ok hor (q0z (k.e x) (z66 hks)) hq;have hrow2:=hP.ok.bld _ _ _ _ _ hky hrow;have hval:=w8o hrow2 (hkey ky);have hxv:ev n f x=kenc D K' ky:=by unfold kenc;rw[<-hval];exact j0r (k.e x) hks
 have hmv:ev n f m= .map (some b):=Uo (hm▸k.e m) hν;have hel:ElV D σ V' ((mm ky).getD z) ((F ky).getD (D.zero V')):=ORel.getD (hF ky) (hzr σ);obtain⟨cs,hcs,hv⟩:=hel;obtain⟨v,hv',hl,hp⟩:=j7d (D:=D) (ν:=ν) (hcs.toS) hs;have hvv:v=(mm ky).getD z:=by
  have h1:=hp w;simp only[part,Sem.run_bind,q9p hT,Result.andThen_ok,hA] at h1;rw[hv];have hlen:cs.length=D.size V':=by rw[hcs.1,hP.ok.len]
  cases hb:Nat.beq (D.size V') 1 with
  |true=>
   have hb':=e9 hb
   match cs,hlen.trans hb' with
   |[u],_=>
    simp only[hb,Bool.not_true,Bool.false_eq_true,if_false] at h1;simp at h1;exact h1.symm
  |false=>
   have hb':D.size V'≠1:=fun he=>by rw[he] at hb;cases hb
   simp only[hb,Bool.not_false,if_true,Sem.run_bind,Un hT,hsz,Result.andThen_ok,Sem.run_pure] at h1;have h2:v= .agg (cs.toArray.extract 0 (0+D.size V')):=by cases h1;rfl
   rw[h2,<-hlen];have h3:cs.toArray.extract 0 (0+cs.length)=cs.toArray:=by simp
   rw[h3]
   match cs,hlen with
   |[],_=>rfl
   |[u],hl=>exact absurd hl.symm hb'
   |u::u'::cs,_=>rfl
 have hor2:(mm ky).isSome=(F ky).isSome:=ORel.isSome (hF ky);cases okk with
 |true=>
  refine⟨_,_,.tuple #[v,.bool (F ky).isSome],hK2,.tup [v,.bool (F ky).isSome] _ rfl (fun j u s' hj hs'=> ?_),fun w oo hoo _ hrd=> ?_⟩
  .match j with
   |0=>cases hj;cases hs';exact hv'
   |1=>cases hj;cases hs';exact .f (.bool _)
   |j+2=>cases hj
  .have hokw:=hrd o (by simp) _ ho;rw[hh] at hokw;simp[execOp,hoo,hmv,hxv,w5d hK hu hz hokw true,hvv,hor2]
 |false=>
  refine⟨_,_,v,hK2,hv',fun w oo hoo _ hrd=> ?_⟩;have hokw:=hrd o (by simp) _ ho;rw[hh] at hokw;simp[execOp,hoo,hmv,hxv,w5d hK hu hz hokw false,hvv]
theorem w2i{cs:List Value}{l:List (FV S)}(h:RowF D σ cs l):SRep D ν σ (asV cs) (svOf l):=by
 match l,cs,h with
 |[x],[c],h=>exact .f (h.2 0 c x rfl rfl)
 |[],[],h=>exact .agg [] [] rfl (fun j v s hj=>by cases hj) (by simp)
 |x::y::l,c::d::cs,h=>
  have:=h.toS (ν:=ν);exact .agg _ _ this.1 this.2.1 this.2.2
 |[],_::_,h=>have:=h.1;simp at this
 |[_],[],h=>have:=h.1;simp at this
 |[_],_::_::_,h=>have:=h.1;simp at this
 |_::_::_,[],h=>have:=h.1;simp at this
 |_::_::_,[_],h=>have:=h.1;simp at this
theorem v5w{l:List (FV S)}(h:l.all keyF=true):RowF D σ (l.map valF) l:=by refine⟨by simp,fun j v s hj hs=> ?_⟩;rw[List.getElem?_map,hs] at hj;cases hj;have:=List.all_eq_true.1 h s (List.mem_of_getElem? hs);cases s<;>simp[keyF] at this<;>constructor
theorem y4i{x:Operand}(k:Kn D ν σ n f w e ob lkc oh)(h:Jv P D e ob lkc (.entry x) K):q0v P D ν σ ob oh (ev n f) (.entry x) K:=by
 simp only[Jv] at h;split at h;case h_2=>exact h.elim
 rename_i o hx;split at h;case h_2=>exact h.elim
 rename_i Kc V F done ky y ho;obtain⟨hR,hok⟩:=k.o o _ ho;obtain⟨r,b,es,clock,cv,hν,hh,hb,hK,hM,hF,hkey,hinj,hcur⟩:=hR;obtain⟨v,hcv,cs,hcs,hv⟩:=hcur ky y rfl;have hxv:ev n f x= .pointer (some ⟨r,0,none⟩):=by
  have hx':=k.e x;rw[hx] at hx';generalize ev n f x=u at hx';cases hx' with
  |ref _ _ b' h'=>rw[hν] at h';cases h';rfl
 refine⟨_,_,.tuple #[kenc D Kc ky,v],h,.tup [kenc D Kc ky,v] _ rfl (fun j u s' hj hs'=> ?_),fun w oo hoo hV hrd=> ?_⟩
 .match j with
  |0=>cases hj;cases hs';exact w2i (v5w (hkey ky))
  |1=>cases hj;cases hs';rw[hv];exact w2i hcs
  |j+2=>cases hj
 .have hokw:=hrd o (by simp) _ ho;rw[hh] at hokw;obtain⟨seen,k1,k2,k3⟩:=hokw;obtain⟨s0,e',rfl,he,hk,hv'⟩:=k3 _ hcv;have:=run_entry_at (P:=P) w r b clock s0 es clock e' k1 (hV _ _ hb) he hM.2.1;rw[hk,hv'] at this;simp only[execOp,hoo,hxv,Sem.run_bind,this,Result.andThen_ok];rfl
theorem w8p{o:Op}(hP:D.OkP P)(k:Kn D ν σ n f w e ob lkc oh)(h:Jv P D e ob lkc o K):q0v P D ν σ ob oh (ev n f) o K:=by
 have hD:=hP.ok;unfold Jv at h;split at h
 .exact⟨_,_,_,h,k.e _,fun w oo ho _ _=>by simp[execOp,ho]⟩
 .exact⟨_,_,_,h,k.e _,fun w oo ho _ _=>by simp[execOp,ho]⟩
 .exact y7r k h
 .exact y7s k h
 .exact w8k k h
 .exact v2q k h
 .exact w8l hD k h
 .exact y4b k h
 .exact y4g hD k h
 .exact v5o k h
 .exact v2s k h
 .exact y4e hD k h
 .exact y97 k h
 .exact y98 k h
 .exact v5s hP k h
 .exact y4f k h
 .exact y4h hD k h
 .exact y99 hD k h
 .exact u0a k h
 .exact u0b k h
 .exact v94 hP k h
 .exact y4i k h
 .exact h.elim
end Go.Fx
end
noncomputable section
namespace Go.Fx
open Go Go.RowKit Go.Fl Go.Fl.Lk
variable {S:Sig}{P:Program}{D:Shp S}{ν ν':Nm}{σ τ:Hv}{n:Nat}{f:Fr}
variable {w:World}{e:Operand->SV S}{ob:Nat->Option (AO S)}{lkc:Nat->Nat->SV S}{oh:Nat->HObj}{c:Cx}
def Objs(D:Shp S)(ν:Nm)(σ:Hv)(lkc:Nat->Nat->SV S):List (Nat×AO S)->List HObj->Prop
 |[],[]=>True
 |(o,a)::os,h::hs=>ORep D ν σ lkc o a h/\Objs D ν σ lkc os hs
 |_,_=>False
theorem ORep.mono{o:Nat}{a:AO S}{h:HObj}(hr:ORep D ν σ lkc o a h)(hn:Ext ν ν')(hs:Sub σ τ):ORep D ν' τ lkc o a h:=by
 cases a with
 |cells ty l=>obtain⟨b,cs,h1,h2,h3⟩:=hr;exact⟨b,cs,hn _ _ h1,h2,h3.mono hn hs⟩
 |vec ety T l=>obtain⟨v,xs,h1,h2,h3,h4⟩:=hr;exact⟨v,xs,hn _ _ h1,h2,h3.mono hs,h4⟩
 |frz T l=>obtain⟨v,h1,h2,h3⟩:=hr;exact⟨v,hn _ _ h1,h2,h3.mono hs⟩
 |arr ty T N l=>obtain⟨b,cs,h1,h2,h3,h4⟩:=hr;exact⟨b,cs,hn _ _ h1,h2,h3.mono hs,h4⟩
 |map K V F=>obtain⟨b,m,h1,h2,h3⟩:=hr;exact⟨b,m,hn _ _ h1,h2,fun k=>(h3 k).imp fun v y h=>h.mono hs⟩
 |iter K V F done cur=>
  obtain⟨r,b,es,clock,cv,h1,h2,h3,h4,h5,h6,h7,h8,h9⟩:=hr;exact⟨r,b,es,clock,cv,hn _ _ h1,h2,hs _ _ h3,h4,h5,fun k=>(h6 k).imp fun v y h=>h.mono hs,h7,h8,fun k y hk=>(h9 k y hk).imp fun v h=>⟨h.1,h.2.mono hs⟩⟩
 |siter s pos=>obtain⟨r,h1,h2⟩:=hr;exact⟨r,hn _ _ h1,h2⟩
theorem Objs.mono: ∀{os:List (Nat×AO S)} {ms:List HObj},Objs D ν σ lkc os ms->Ext ν ν'->Sub σ τ->Objs D ν' τ lkc os ms
 |[],[],_,_,_=>trivial
 |(_,_)::_,_::_,h,hn,hs=>⟨h.1.mono hn hs,Objs.mono h.2 hn hs⟩
theorem Objs.append: ∀{os os':List (Nat×AO S)} {ms ms':List HObj},Objs D ν σ lkc os ms->Objs D ν σ lkc os' ms'->Objs D ν σ lkc (os++os') (ms++ms')
 |[],_,[],_,_,h=>h
 |(_,_)::_,_,_::_,_,h,h'=>⟨h.1,Objs.append h.2 h'⟩
theorem Objs.split: ∀{os os':List (Nat×AO S)} {ms:List HObj},Objs D ν σ lkc (os++os') ms-> ∃m1 m2,ms=m1++m2/\Objs D ν σ lkc os m1/\Objs D ν σ lkc os' m2
 |[],_,ms,h=>⟨[],ms,rfl,trivial,h⟩
 |(o,a)::os,os',m::ms,h=>by obtain⟨m1,m2,rfl,h1,h2⟩:=Objs.split (os:=os) h.2;exact⟨m::m1,m2,rfl,⟨h.1,h1⟩,h2⟩
theorem j7i{α:Type}{os:List (Nat×α)}{o:Nat}{a:α}(h:Zr os o=some a):(o,a)∈os:=by
 induction os with
 |nil=>cases h
 |cons q os ih=>
  obtain⟨o',a'⟩:=q;simp only[Zr] at h;cases hb:Nat.beq o' o with
  |true=>rw[hb] at h;cases h;rw[e9 hb];simp
  |false=>rw[hb] at h;exact List.mem_cons_of_mem _ (ih h)
theorem Objs.take{os:List (Nat×AO S)}{ms:List HObj}{o:Nat}{a:AO S}(h:Objs D ν σ lkc os ms)(hf:Zr os o=some a):
  ∃m ms',ms.Perm (m::ms')/\ORep D ν σ lkc o a m/\Objs D ν σ lkc (delN os o) ms':=by
 induction os generalizing ms with
 |nil=>cases hf
 |cons q os ih=>
  obtain⟨o',a'⟩:=q;cases ms with
  |nil=>exact h.elim
  |cons m ms=>
   simp only[Zr] at hf;simp only[delN];cases hb:Nat.beq o' o with
   |true=>
    rw[hb] at hf;cases hf;have:=e9 hb;subst this;exact⟨m,ms,.refl _,h.1,by simpa using h.2⟩
   |false=>
    rw[hb] at hf;obtain⟨m',ms',hp,hr,ho⟩:=ih h.2 hf;exact⟨m',m::ms',(hp.cons m).trans (.swap _ _ _),hr,⟨h.1,ho⟩⟩
theorem j7j{g:Nat->SV S}: ∀{l:List (SV S)} {i:Nat} {cs:List Value},RowS D ν σ cs l->resL g i l=l:=by
 intro l
 induction l with
 |nil=>intro i cs _;rfl
 |cons s l ih=>
  intro i cs h;cases cs with
  |nil=>have:=h.1;cases this
  |cons c cs=>
   have h1:=h.2.1 0 c s rfl rfl;have h2:RowS D ν σ cs l:=⟨by have:=h.1;simpa using this,fun j v s hj hk=>h.2.1 (j+1) v s (by simpa using hj) (by simpa using hk),fun v hv=>h.2.2 v (by simp[hv])⟩;cases h1<;>simp only[resL]<;>rw[ih h2]
def RepR(D:Shp S)(ν:Nm)(σ:Hv)(r:Next):Option (SV S)->Prop
 |some s=> ∃v,r= .value v/\SRep D ν σ v s
 |none=>r= .skip
def z2i(P:Program)(D:Shp S)(ν:Nm)(σ:Hv)(w:World)(ob:Nat->Option (AO S))(lkc:Nat->Nat->SV S)(nx:Nat)(r:Operand->Value)(o:Op)(K:List Nat->List (Nat×AO S)->Option (SV S)->Prop):Prop:=
 ∃tl outs sv tlo,K tl outs sv/\tlo.map (·.1)=tl/\tl.Nodup/\(∀q∈tlo,ob q.1=some q.2)/\∀ins,Objs D ν σ lkc tlo ins->St ⟨w,σ,feet ins⟩ w σ ins-> ∀oo:Oper,oo.op=o->
  ∃w' σ' ν' ms' x,(execOp r oo).run P w= .ok x w'/\Ext ν ν'/\(∀m u,ν' m=some u->ν m=some u\/m=nx)/\St ⟨w,σ,feet ins⟩ w' σ' ms'/\Objs D ν' σ' lkc outs ms'/\RepR D ν' σ' x sv
variable {nx:Nat}{K:List Nat->List (Nat×AO S)->Option (SV S)->Prop}
def Nm.add(ν:Nm)(o:Nat)(v:Value):Nm:=fun m=>if m=o then some v else ν m
theorem Nm.add_ext{o:Nat}{v:Value}(h:ν o=none):Ext ν (ν.add o v):=by
 intro m u hu;unfold Nm.add;rw[if_neg]
 .exact hu
 .rintro rfl;rw[h] at hu;cases hu
theorem Nm.add_new{o:Nat}{v:Value}: ∀m u,ν.add o v m=some u->ν m=some u\/m=o:=by
 intro m u hu;unfold Nm.add at hu;split at hu
 .rename_i h;exact .inr h
 .exact .inl hu
theorem Nm.add_self{o:Nat}{v:Value}:ν.add o v o=some v:=by unfold Nm.add;rw[if_pos rfl]
theorem q75{ins:List HObj}(hS:St c w σ ins)(t:TypeId)(cs:Array Value):St c (w.alloc (.cells cs t)) σ (blk w.heap.size t cs.toList::ins):=
 hS.add (Wb w _) (by show (w.alloc _).heap[w.heap.size]? =_;rw[heap_alloc_new,Array.toArray_toList]) (by rintro k ⟨⟩;exact Nat.le_refl _)
theorem y4j{t:TypeId}(hP:D.OkP P)(hnx:ν nx=none)(h:Hb P D e ob nx (.alloc t) K):z2i P D ν σ w ob lkc nx (ev n f) (.alloc t) K:=by
 simp only[Hb] at h;split at h
 .rename_i T N ha;obtain⟨cs,hz,hE⟩:=hP.arr _ _ _ ha;refine⟨_,_,_,[],h,rfl,List.nodup_nil,by simp,fun ins ho hS oo hoo=> ?_⟩;cases ins with
  |cons=>exact ho.elim
  |nil=>
   refine⟨_,σ,ν.add nx (.pointer (some ⟨w.heap.size,0,none⟩)),_,.value (.pointer (some ⟨w.heap.size,0,none⟩)),by simp[execOp,hoo,Instr.alloc,hz,newVar,newRow,newObj,Sem.run];rfl,Nm.add_ext hnx,Nm.add_new,
    q75 hS t _,⟨⟨_,_,Nm.add_self,rfl,hE σ,by simp⟩,trivial⟩,⟨_,rfl,.ref nx 0 _ Nm.add_self⟩⟩
 .split at h;case h_2=>exact h.elim
  rename_i z hz;obtain⟨hz1,h⟩:=J1 h;have hzr: ∀w,(zeroValue t).run P w= .ok z w:=by intro w;obtain⟨i,hi,hz⟩:=Option.bind_eq_some_iff.1 hz;simp[zeroValue,typeInfo,hi,hz]
  refine⟨_,_,_,[],h,rfl,List.nodup_nil,by simp,fun ins ho hS oo hoo=> ?_⟩;cases ins with
  |cons=>exact ho.elim
  |nil=>
   have hr:=j6h (D:=D) (ν:=ν.add nx (.pointer (some ⟨w.heap.size,0,none⟩))) (σ:=σ) hz1
   refine⟨_,σ,ν.add nx (.pointer (some ⟨w.heap.size,0,none⟩)),_,.value (.pointer (some ⟨w.heap.size,0,none⟩)),by simp[execOp,hoo,Instr.alloc,hzr,newVar,newRow,newObj,Sem.run];rfl,Nm.add_ext hnx,Nm.add_new,
    q75 hS t _,⟨⟨_,_,Nm.add_self,rfl,?_⟩,trivial⟩,⟨_,rfl,.ref nx 0 _ Nm.add_self⟩⟩
   rw[j7j hr];exact hr
theorem u0c{t:TypeId}{x:Operand}(hnx:ν nx=none)(k:Kn D ν σ n f w e ob lkc oh)(h:Hb P D e ob nx (.box t x) K):z2i P D ν σ w ob lkc nx (ev n f) (.box t x) K:=by
 have hx:=k.e x;have run: ∀oo:Oper,oo.op= .box t x->(execOp (ev n f) oo).run P w= .ok (.value (.pointer (some ⟨w.heap.size,0,none⟩))) (w.alloc (.cells (ev n f x).cells t)):=by intro oo hoo;simp[execOp,hoo,Instr.box,newVar,newRow,newObj,Sem.run]
 simp only[Hb] at h;split at h
 .rename_i T N l hxe;refine⟨_,_,_,[],h,rfl,List.nodup_nil,by simp,fun ins ho hS oo hoo=> ?_⟩;cases ins with
  |cons=>exact ho.elim
  |nil=>
   refine⟨_,σ,ν.add nx (.pointer (some ⟨w.heap.size,0,none⟩)),_,_,run oo hoo,Nm.add_ext hnx,Nm.add_new,q75 hS t _,⟨⟨_,_,Nm.add_self,rfl,?_⟩,trivial⟩,⟨_,rfl,.ref nx 0 _ Nm.add_self⟩⟩;rw[hxe] at hx;generalize ev n f x=v at hx;cases hx with
   |arr cs _ _ _ hN hl hr=>exact⟨⟨hl,hr⟩,hN⟩
 .obtain⟨l,hl,h⟩:=Ql h;refine⟨_,_,_,[],h,rfl,List.nodup_nil,by simp,fun ins ho hS oo hoo=> ?_⟩;cases ins with
  |cons=>exact ho.elim
  |nil=>
   refine⟨_,σ,ν.add nx (.pointer (some ⟨w.heap.size,0,none⟩)),_,_,run oo hoo,Nm.add_ext hnx,Nm.add_new,q75 hS t _,⟨⟨_,_,Nm.add_self,rfl,?_⟩,trivial⟩,⟨_,rfl,.ref nx 0 _ Nm.add_self⟩⟩;have hr:=(q0z hx hl).mono (Nm.add_ext (v:= .pointer (some ⟨w.heap.size,0,none⟩)) hnx) (Sub.refl σ);rw[j7j hr];exact hr
theorem y4k{ms:List HObj}(h:St c w σ ms):St c w σ (triv::ms):=h.add (.refl _ _) trivial (by intro k hk;cases hk)
theorem w1e{ms:List HObj}{ety:TypeId}{T:S.C}{v:Value}{xs:List Value}{l:List (S.car T)}(hD:D.Ok)(h:St c w σ (vec v ety (D.size T) l.length xs::ms))(hE:Els D σ T xs l)(hl:l.length<=140737488355328):
  ∃σ1,St c w σ1 (triv::ms)/\Sub σ σ1/\RepF D σ1 v (.sl T l):=by
 obtain⟨σ1,h1,h2,h3⟩:=h.freeze' (i:=0) rfl rfl;refine⟨σ1,y4k h1,h2,RepF.ofRSl hD (RSl.ofVec (h.get (i:=0) rfl) h3 rfl hl fun i x hx=>⟨?_,(hE.2 i x hx).mono h2⟩)⟩;rw[(hE.2 i x hx).1,hD.len]
theorem q70(hD:D.Ok): ∀{fz:List Nat} {outs tlo:List (Nat×AO S)} {ms ins:List HObj},frzs ob fz=some outs->tlo.map (·.1)=fz->(∀q∈tlo,ob q.1=some q.2)->Objs D ν σ lkc tlo ins->St c w σ (ms++ins)->
  ∃σ1 ms1,St c w σ1 (ms++ms1)/\Sub σ σ1/\Objs D ν σ1 lkc outs ms1:=by
 intro fz
 induction fz generalizing σ with
 |nil=>
  intro outs tlo ms ins hf ht _ ho hS;cases hf;cases tlo with
  |cons=>cases ht
  |nil=>
   cases ins with
   |cons=>exact ho.elim
   |nil=>exact⟨σ,[],hS,Sub.refl _,trivial⟩
 |cons o fz ih=>
  intro outs tlo ms ins hf ht hq ho hS;cases tlo with
  |nil=>cases ht
  |cons q tlo=>
   obtain⟨o',a⟩:=q;injection ht with h1 h2;simp only at h1;subst h1;cases ins with
   |nil=>exact ho.elim
   |cons m ins=>
    simp only[frzs] at hf;cases hb:hasN fz o' with
    |true=>rw[hb] at hf;cases hf
    |false=>
     rw[hb] at hf;simp only[cond_false] at hf;split at hf;case h_2=>cases hf
     rename_i ety T l r hob hr;cases hf;have ha:=hq (o',a) (by simp);simp only at ha;rw[hob] at ha;cases ha;obtain⟨v,xs,hν,hm,hE,hl⟩:=ho.1;subst hm;have hS1:=hS.perm (ms':=vec v ety (D.size T) l.length xs::(ms++ins)) List.perm_middle;obtain⟨σ1,hS2,hs1,hrep⟩:=w1e hD hS1 hE hl;have hS3:=hS2.perm (ms':=(ms++[triv])++ins) (by simpa using (List.perm_middle (a:=triv) (l₁:=ms) (l₂:=ins)).symm);obtain⟨σ2,ms1,hS4,hs2,ho2⟩:=ih hr h2 (fun q hq'=>hq q (by simp[hq'])) (ho.2.mono (Ext.refl ν) hs1) hS3;exact⟨σ2,triv::ms1,by simpa using hS4,hs1.trans hs2,⟨v,hν,rfl,hrep.mono hs2⟩,ho2⟩
theorem j0s{t:TypeId}{b o T k:Nat}{v:Value}{cs vs:List Value}{r:Operand->Value}{a x:Operand}{oo:Oper}(ho:oo.op= .store t a x)(ha:r a= .pointer (some ⟨b,o,none⟩))(hx:r x=v)(hvs:v.cells.toList=vs)
  (hs: ∀w,(sizeOf t).run P w= .ok k w)(hl:vs.length=k)(h1: ∀u∈vs,u.oneCell'=true)(hb:w.heap[b]? =some (.cells cs.toArray T (0,0)))(hle:o+k<=cs.length):
  (execOp r oo).run P w= .ok .skip (w.setRow b (Ug cs o vs).toArray):=by
 have hr:=run_storeCells_at P b o T vs 0 cs.toArray w hb (by simpa [hl] using hle) h1;have hsz:v.cells.size=k:=by rw[<-Array.length_toList,hvs,hl]
 simp only[Nat.add_zero] at hr;have h2:(storeVar t ⟨b,o,none⟩ v).run P w= .ok () (w.setRow b (Ug cs o vs).toArray):=by simp only[storeVar,Sem.run_bind,hs,Result.andThen_ok,hsz,hvs];simpa [Ug] using hr
 simp[execOp,ho,ha,hx,Instr.storeAt,Instr.sureAddr,h2]
theorem v2t{t:TypeId}{g cap T size k o j:Nat}{v:Value}{xs vs:List Value}{r:Operand->Value}{a x:Operand}{oo:Oper}(hoo:oo.op= .store t a x)(ha:r a= .pointer (some ⟨g,o,none⟩))(hx:r x=v)(hvs:v.cells.toList=vs)
  (hs: ∀w,(sizeOf t).run P w= .ok j w)(hl:vs.length=j)(h1: ∀u∈vs,u.oneCell'=true)(hv:(vec (.slice (some ⟨g,0,none⟩) k cap) T size k xs).ok w)(ho:o+j<=k*size):
  ∃w',(execOp r oo).run P w= .ok .skip w'/\Keeps [g] w w'/\(vec (.slice (some ⟨g,0,none⟩) k cap) T size k (Ug xs o vs)).ok w':=by
 obtain⟨hlen,hor⟩:=hv;rcases hor with ⟨hbad,_⟩|⟨g',cap',cur,heq,_,hb,hk,hm,hcur,htake⟩
 .cases hbad
 .obtain⟨rfl,rfl⟩:g=g'/\cap=cap':=by simpa using heq
  have hle:k*size<=cap*size:=Nat.mul_le_mul_right _ hk;have hb':w.heap[g]? =some (.cells cur.toList.toArray T (0,0)):=by rw[Array.toArray_toList];exact hb
  refine⟨_,j0s (P:=P) hoo ha hx hvs hs hl h1 hb' (by rw[Array.length_toList,hcur];omega),q13 hb _,?_,.inr ⟨g,cap,_,rfl,Nat.zero_le _,setRow_heap w g cur _ T _ hb,hk,hm,?_,?_⟩⟩
  .unfold Ug;simp only[List.length_append,List.length_take,List.length_drop];omega
  .unfold Ug;simp only[List.size_toArray,List.length_append,List.length_take,List.length_drop,Array.length_toList];omega
  .exact j66 htake (by omega) (by simp;omega)
theorem j7k{cs vs:List Value}{l ss:List (FV S)}{off:Nat}(h:RowF D σ cs l)(k:RowF D σ vs ss)(hle:off+ss.length<=l.length):
  RowF D σ (cs.take off++vs++cs.drop (off+vs.length)) (l.take off++ss++l.drop (off+ss.length)):=by
 have e1:=h.1;have e2:=k.1;refine⟨by simp only[List.length_append,List.length_take,List.length_drop];omega,fun j v s hj hs=> ?_⟩;have t1:(cs.take off).length=off:=by rw[List.length_take];omega
 have t2:(l.take off).length=off:=by rw[List.length_take];omega
 rw[List.append_assoc] at hj hs;rcases Nat.lt_or_ge j off with hlt|hge
 .rw[List.getElem?_append_left (by omega)] at hj hs;rw[List.getElem?_take_of_lt hlt] at hj hs;exact h.2 j v s hj hs
 .rw[List.getElem?_append_right (by omega)] at hj hs;rw[t1] at hj;rw[t2] at hs;rcases Nat.lt_or_ge (j - off) ss.length with hlt|hge'
  .rw[List.getElem?_append_left (by omega)] at hj hs;exact k.2 _ v s hj hs
  .rw[List.getElem?_append_right (by omega)] at hj hs;rw[List.getElem?_drop] at hj hs;have e3:off+vs.length+(j - off - vs.length)=off+ss.length+(j - off - ss.length):=by omega
   rw[e3] at hj;exact h.2 _ v s hj hs
theorem j6i{g:Nat->SV S}: ∀{l:List (SV S)} {i:Nat},(resL g i l).length=l.length
 |[],_=>rfl
 |s::l,i=>by cases s<;>simp[resL,j6i]
theorem w5n{g:Nat->SV S}: ∀{l:List (SV S)} {i k:Nat},(resL g i l).drop k=resL g (i+k) (l.drop k)
 |[],_,_=>by simp[resL]
 |s::l,i,0=>by simp
 |s::l,i,k+1=>by
  have:(resL g i (s::l)).drop (k+1)=(resL g (i+1) l).drop k:=by cases s<;>simp[resL]
  rw[this,w5n,List.drop_succ_cons,Nat.add_assoc,Nat.add_comm 1 k]
theorem w5o{g:Nat->SV S}: ∀{l:List (SV S)} {i k:Nat},(resL g i l).take k=resL g i (l.take k)
 |[],_,_=>by simp[resL]
 |s::l,i,0=>by simp[resL]
 |s::l,i,k+1=>by cases s<;>simp[resL,w5o]
theorem z86{g:Nat->SV S}: ∀{l l':List (SV S)} {i:Nat},resL g i (l++l')=resL g i l++resL g (i+l.length) l'
 |[],_,_=>by simp[resL]
 |s::l,l',i=>by
  have e1:i+(s::l).length=i+1+l.length:=by simp;omega
  rw[e1];cases s<;>simp[resL,z86]
theorem w1f{T:S.C}{xs vs:List Value}{l:List (S.car T)}{i off:Nat}{y y':S.car T}(hE:Els D σ T xs l)(hy:l[i]? =some y)(hle:off+vs.length<=D.size T)
  (hr: ∀cs,RowF D σ cs (D.shape T y)->RowF D σ (cs.take off++vs++cs.drop (off+vs.length)) (D.shape T y')):Els D σ T (Ug xs (i*D.size T+off) vs) (l.set i y'):=by
 have hi:=Qj hy;have h1:(i+1)*D.size T<=l.length*D.size T:=Nat.mul_le_mul_right _ hi;rw[Nat.add_mul,Nat.one_mul] at h1;have hl:=hE.1;refine⟨by unfold Ug;simp only[List.length_append,List.length_take,List.length_drop,List.length_set];omega,fun j x hx=> ?_⟩;rw[List.getElem?_set] at hx;have part: ∀m,(Ug xs (i*D.size T+off) vs)[m]? =if m<i*D.size T+off then xs[m]? else if m<i*D.size T+off+vs.length then vs[m - (i*D.size T+off)]? else xs[m]? :=by
  intro m;unfold Ug;have t1:(xs.take (i*D.size T+off)).length=i*D.size T+off:=by rw[List.length_take];omega
  rw[List.append_assoc];split
  .rename_i h;rw[List.getElem?_append_left (by omega),List.getElem?_take_of_lt h]
  .rename_i h;rw[List.getElem?_append_right (by omega),t1];split
   .rename_i h2;rw[List.getElem?_append_left (by omega)]
   .rename_i h2;rw[List.getElem?_append_right (by omega),List.getElem?_drop];congr 1;omega
 by_cases hij:i=j
 .subst hij;rw[if_pos rfl,if_pos hi] at hx;cases hx;have:=hr _ (hE.2 i y hy);have e:((Ug xs (i*D.size T+off) vs).drop (i*D.size T)).take (D.size T)=((xs.drop (i*D.size T)).take (D.size T)).take off++vs++((xs.drop (i*D.size T)).take (D.size T)).drop (off+vs.length):=by
   apply List.ext_getElem?;intro m;rw[List.getElem?_take];have c1:(((xs.drop (i*D.size T)).take (D.size T)).take off).length=off:=by simp only[List.length_take,List.length_drop];omega
   rw[List.append_assoc];by_cases hm:m<D.size T
   .rw[if_pos hm,List.getElem?_drop,part];by_cases h2:m<off
    .rw[if_pos (by omega),List.getElem?_append_left (by omega),List.getElem?_take_of_lt h2,List.getElem?_take_of_lt hm,List.getElem?_drop]
    .rw[if_neg (by omega),List.getElem?_append_right (by omega),c1];by_cases h3:m<off+vs.length
     .rw[if_pos (by omega),List.getElem?_append_left (by omega)];congr 1;omega
     .rw[if_neg (by omega),List.getElem?_append_right (by omega),List.getElem?_drop,List.getElem?_take_of_lt (by omega),List.getElem?_drop];congr 1;omega
   .rw[if_neg hm];symm;apply List.getElem?_eq_none;simp only[List.length_append,List.length_take,List.length_drop];omega
  rw[e];exact this
 .rw[if_neg hij] at hx;have hj:=Qj hx;have e:((Ug xs (i*D.size T+off) vs).drop (j*D.size T)).take (D.size T)=(xs.drop (j*D.size T)).take (D.size T):=by
   apply List.ext_getElem?;intro m;rw[List.getElem?_take,List.getElem?_take];split
   .rename_i hm;rw[List.getElem?_drop,List.getElem?_drop,part];rcases Nat.lt_or_gt_of_ne hij with h|h
    .have h3:(i+1)*D.size T<=j*D.size T:=Nat.mul_le_mul_right _ h;rw[Nat.add_mul,Nat.one_mul] at h3;rw[if_neg (by omega),if_neg (by omega)]
    .have h3:(j+1)*D.size T<=i*D.size T:=Nat.mul_le_mul_right _ h;rw[Nat.add_mul,Nat.one_mul] at h3;rw[if_pos (by omega)]
   .rfl
  rw[e];exact hE.2 j x hx
theorem v1e{ss:List (SV S)}{xs:List (FV S)}{fz:List Nat}(h:toFs ob ss=some (xs,fz)):xs.length=ss.length:=by
 induction ss generalizing xs fz with
 |nil=>cases h;rfl
 |cons s ss ih=>
  simp only[toFs] at h;split at h;case h_2=>cases h
  split at h;case h_2=>cases h
  rename_i h2;cases h;simp[ih h2]
theorem j23{ss:List (SV S)}{cs:List Value}{xs:List (FV S)}{fz:List Nat}(hD:D.Ok)(ho: ∀o a,ob o=some a->ORep D ν σ lkc o a (oh o))(hs':Sub σ τ)(hs:RowS D ν σ cs ss)(h:toFs ob ss=some (xs,fz))
  (hf: ∀o e T l v,o∈fz->ob o=some (.vec e T l)->ν o=some v->RepF D τ v (.sl T l)):RowF D τ cs xs:=by
 induction ss generalizing cs xs fz with
 |nil=>cases h;exact⟨hs.1,fun j v s hj hk=>by cases hk⟩
 |cons s ss ih=>
  cases cs with
  |nil=>have:=hs.1;cases this
  |cons c cs=>
   simp only[toFs] at h;split at h;case h_2=>cases h
   rename_i x a hx;split at h;case h_2=>cases h
   rename_i xs' b hxs;cases h;have h1:=v1d hD ho (hs.2.1 0 c s rfl rfl) hx;have h2:=ih (cs:=cs) ⟨by have:=hs.1;simpa using this,fun j v s hj hk=>hs.2.1 (j+1) v s (by simpa using hj) (by simpa using hk),fun v hv=>hs.2.2 v (by simp[hv])⟩ hxs (fun o e T l v hm=>hf o e T l v (by simp[hm]));refine⟨by simp[h2.1],fun j v s hj hk=> ?_⟩;cases j with
   |zero=>
    cases hj;cases hk;rcases h1 with ⟨_,h1⟩|⟨o,e,T,l,h0,hx',hob,hν⟩
    .exact h1.mono hs'
    .subst h0 hx';exact hf o e T l _ (by simp) hob hν
   |succ j=>exact h2.2 j v s (by simpa using hj) (by simpa using hk)
theorem z67{l:List Nat}{o:Nat}(h:hasN l o=false):o∉l:=by
 induction l with
 |nil=>simp
 |cons a l ih=>
  simp only[hasN] at h;cases hb:Nat.beq a o with
  |true=>rw[hb] at h;cases h
  |false=>
   rw[hb] at h;intro hm;rcases List.mem_cons.1 hm with rfl|hm
   .simp at hb
   .exact ih h hm
theorem z1b: ∀{fz:List Nat} {outs:List (Nat×AO S)},frzs ob fz=some outs-> ∃tlo:List (Nat×AO S),tlo.map (·.1)=fz/\fz.Nodup/\(∀q∈tlo,ob q.1=some q.2)/\∀o e T l,o∈fz->ob o=some (.vec e T l)->(o,AO.frz T l)∈outs:=by
 intro fz
 induction fz with
 |nil=>intro outs h;cases h;exact⟨[],rfl,List.nodup_nil,by simp,by simp⟩
 |cons o fz ih=>
  intro outs h;simp only[frzs] at h;cases hb:hasN fz o with
  |true=>rw[hb] at h;cases h
  |false=>
   rw[hb] at h;simp only[cond_false] at h;split at h;case h_2=>cases h
   rename_i e T l r hob hr;cases h;obtain⟨tlo,h1,h2,h3,h4⟩:=ih hr;refine⟨(o,.vec e T l)::tlo,by simp[h1],List.nodup_cons.2 ⟨z67 hb,h2⟩,?_,?_⟩
   .intro q hq;rcases List.mem_cons.1 hq with rfl|hq
    .exact hob
    .exact h3 q hq
   .intro o' e' T' l' hm hob';rcases List.mem_cons.1 hm with rfl|hm
    .rw[hob] at hob';cases hob';simp
    .exact List.mem_cons_of_mem _ (h4 o' e' T' l' hm hob')
theorem Objs.mem: ∀{os:List (Nat×AO S)} {ms:List HObj},Objs D ν σ lkc os ms-> ∀{o a},(o,a)∈os-> ∃m,ORep D ν σ lkc o a m
 |[],[],_,_,_,hm=>by cases hm
 |(o',a')::os,m::ms,h,o,a,hm=>by
  rcases List.mem_cons.1 hm with he|hm
  .cases he;exact⟨m,h.1⟩
  .exact Objs.mem h.2 hm
theorem j24{fz:List Nat}{outs:List (Nat×AO S)}{ms:List HObj}(hf:frzs ob fz=some outs)(ho:Objs D ν σ lkc outs ms): ∀o e T l v,o∈fz->ob o=some (.vec e T l)->ν o=some v->RepF D σ v (.sl T l):=by intro o e T l v hm hob hν;obtain⟨_,_,_,_,h4⟩:=z1b hf;obtain⟨m,v',hν',_,hr⟩:=ho.mem (h4 o e T l hm hob);rw[hν] at hν';cases hν';exact hr
theorem w5p{b T:Nat}{cs:List Value}{w:World}(h:(blk b T cs).ok w):w.heap[b]? =some (.cells cs.toArray T (0,0)):=h
theorem w2j{w w':World}{h h':HObj}{ms:List HObj}(hS:St c w σ (h::ms))(hk:Keeps h.foot.toList w w')(ho:h'.ok w')(hf:h'.foot=h.foot):St c w' σ (h'::ms):=
 hS.step (i:=0) rfl hk ho (fun k hk=> .inl (by rw[<-hf];exact hk)) rfl hS.view.none_of_ge
theorem w2k{t:TypeId}{a x:Operand}{o off b:Nat}{ty:TypeId}{l cs:List (SV S)}(k:Kn D ν σ n f w e ob lkc oh)(hν:ν o=some (.pointer (some ⟨b,0,none⟩)))(ha:ev n f a= .pointer (some ⟨b,off,none⟩))(hob:ob o=some (.cells ty l))
  (hcs:z8k (e x)=some cs)(hT:hasT P t=true)(hsz:szQ P t=cs.length)(hle:off+cs.length<=l.length)(hlk:noLk ((l.drop off).take cs.length)=true)
  (h:K [o] [(o,.cells ty (l.take off++cs++l.drop (off+cs.length)))] none):z2i P D ν σ w ob lkc nx (ev n f) (.store t a x) K:=by
 have _:=hlk;refine⟨_,_,_,[(o,.cells ty l)],h,rfl,by simp,by simpa using hob,fun ins ho hS oo hoo=> ?_⟩
 match ins,ho with
 |[m],ho=>
  obtain⟨b',cs0,hν',hm,hrow⟩:=ho.1;rw[hν] at hν';cases hν';subst hm;have hlen:cs0.length=l.length:=by rw[hrow.1,j6i]
  have hr:=q0z (k.e x) hcs;have hlv:(ev n f x).cells.toList.length=szQ P t:=by rw[hr.1,hsz]
  have hok:=w5p (hS.get (i:=0) rfl)
  refine⟨_,σ,ν,_,_,j0s (P:=P) hoo ha rfl rfl (fun w=>Un hT w) hlv hr.2.2 hok (by omega),Ext.refl ν,fun m u hu=> .inl hu,
   w2j (h':=blk b ty _) hS (q13 hok _) (setRow_heap w b _ _ _ _ hok) rfl,⟨⟨b,_,hν,rfl,?_⟩,trivial⟩,rfl⟩
  have h2:=j7g hrow hr (by rw[j6i];exact hle);unfold Ug;rw[z86,z86,<-w5o,j7j hr];have e1:(0:Nat)+(l.take off++cs).length=0+(off+cs.length):=by simp only[List.length_append,List.length_take];omega
  rw[e1,<-w5n];exact h2
theorem y4l{t:TypeId}{a x:Operand}(hP:D.OkP P)(k:Kn D ν σ n f w e ob lkc oh)(h:Hb P D e ob nx (.store t a x) K):z2i P D ν σ w ob lkc nx (ev n f) (.store t a x) K:=by
 have hD:=hP.ok;have hor: ∀o a,ob o=some a->ORep D ν σ lkc o a (oh o):=fun o a h=>(k.o o a h).1
 simp only[Hb] at h;have ka:=k.e a;generalize hva:ev n f a=va at ka;generalize e a=sa at h ka;cases ka with
 |ref o off b hν=>
  simp only at h;split at h
  .rename_i ty l hob;obtain⟨cs,hcs,h⟩:=Ql h;obtain⟨hc,h⟩:=J1 h;obtain⟨hc,h4⟩:=Q6 hc;obtain⟨hc,h3⟩:=Q6 hc;obtain⟨h1,h2⟩:=Q6 hc;exact w2k k hν hva hob hcs h1 (e9 h2) (Nat.le_of_ble_eq_true h3) h4 h
  .rename_i ty T N l0 hob;split at h;case h_2=>exact h.elim
   rename_i T' N' l' hxe;obtain⟨hc,h⟩:=J1 h;obtain⟨hc,h4⟩:=Q6 hc;obtain⟨hc,h3⟩:=Q6 hc;obtain⟨h1,h2⟩:=Q6 hc;have h1:=e9 h1;have h2:=e9 h2;have h4:=e9 h4;obtain⟨e1,h⟩:=q58 h;subst e1;refine⟨_,_,_,[(o,.arr ty T' N l0)],h,rfl,by simp,by simpa using hob,fun ins ho hS oo hoo=> ?_⟩
   match ins,ho with
   |[m],ho=>
    obtain⟨b',cs0,hν',hm,hE,hN⟩:=ho.1;rw[hν] at hν';cases hν';subst hm;have kx:=hxe▸k.e x;have hok:=w5p (hS.get (i:=0) rfl);generalize hvx:ev n f x=vx at kx;cases kx with
    |arr cs _ _ _ hN' hl hr=>
     have hlv:cs.length=szQ P t:=by rw[hl,hN',<-h2,h4]
     have hl0:cs0.length=cs.length:=by rw[hE.1,hN,hl,hN',h2]
     have hones: ∀u∈cs,u.oneCell'=true:=by
      intro u hu;obtain⟨j,hj⟩:=List.mem_iff_getElem?.1 hu;have hjl:=Qj hj;have hpos:=hD.pos T';have hdiv:j / D.size T'<l'.length:=by rw[Nat.div_lt_iff_lt_mul hpos];omega
      obtain⟨y,hy⟩:=getq hdiv;have hrow:=hr _ y hy;have hm:((cs.drop (j / D.size T'*D.size T')).take (D.size T'))[j % D.size T']? =some u:=by
       rw[List.getElem?_take_of_lt (Nat.mod_lt _ hpos),List.getElem?_drop];have:j / D.size T'*D.size T'+j % D.size T'=j:=by rw[Nat.mul_comm];exact Nat.div_add_mod j _
       rw[this];exact hj
      obtain⟨s,hs⟩:=getq (l:=D.shape T' y) (k:=j % D.size T') (by rw[<-hrow.1];exact Qj hm);exact (hrow.2 _ u s hm hs).one
     subst h1
     refine⟨_,σ,ν,_,_,j0s (P:=P) (vs:=cs) hoo hva hvx rfl (fun w=>Un h3 w) hlv hones hok (by omega),Ext.refl ν,fun m u hu=> .inl hu,
      w2j (h':=blk b ty _) hS (q13 hok _) (setRow_heap w b _ _ _ _ hok) rfl,⟨⟨b,_,hν,rfl,?_,hN'.trans h2.symm⟩,trivial⟩,rfl⟩
     rw[z63 hl0.symm];exact⟨hl,hr⟩
  .exact h.elim
 |eref T o i off b m cap hν hi=>
  simp only at h;split at h;case h_2=>exact h.elim
  rename_i ety T' l hob;obtain⟨e1,h⟩:=q58 h;subst e1;obtain⟨cs,hcs,h⟩:=Ql h;obtain⟨q,hq,h⟩:=Ql h;obtain⟨fz,hfz,h⟩:=Ql h;obtain⟨hc,h⟩:=J1 h;obtain⟨hc,h4⟩:=Q6 hc;obtain⟨hc,h3⟩:=Q6 hc;obtain⟨h1,h2⟩:=Q6 hc;have h2:=e9 h2;have h3:=Nat.le_of_ble_eq_true h3;obtain⟨xs,fn⟩:=q;simp only at hfz h h4;obtain⟨hR,hok0⟩:=k.o o _ hob;obtain⟨v0,xs0,hν0,hh0,hE0,_⟩:=hR;rw[hν] at hν0;cases hν0;rw[hh0] at hok0;have hm:m=l.length:=by
   rcases (q2k hok0).2 with ⟨h1,_⟩|⟨g,cap',h1,_⟩
   .cases h1
   .cases h1;rfl
  subst hm;obtain⟨y,hy⟩:=getq (l:=l) (k:=i) (by omega);obtain⟨y',hy',h⟩:=Ql (h y hy);obtain⟨tlo,ht1,ht2,ht3,_⟩:=z1b hfz;have hno:o∉fn:=z67 (by simpa using h4);refine⟨_,_,_,(o,.vec ety T' l)::tlo,h,by simp[ht1],List.nodup_cons.2 ⟨hno,ht2⟩,?_,fun ins ho hS oo hoo=> ?_⟩
  .intro q hq;rcases List.mem_cons.1 hq with rfl|hq
   .exact hob
   .exact ht3 q hq
  match ins,ho with
  |mo::ins,ho=>
   obtain⟨v1,xs1,hν1,hm1,hE,hl47⟩:=ho.1;rw[hν] at hν1;cases hν1;subst hm1;obtain⟨σ1,ms1,hS1,hs1,ho1⟩:=q70 (ms:=[vec (.slice (some ⟨b,0,none⟩) l.length cap) ety (D.size T') l.length xs1]) hD hfz ht1 ht3 ho.2 hS;have hr:=q0z (k.e x) hcs;have hrF:=j23 hD hor hs1 hr hq (j24 hfz ho1);have hlv:(ev n f x).cells.toList.length=szQ P t:=by rw[hr.1,h2]
   have hb1:(i+1)*D.size T'<=l.length*D.size T':=Nat.mul_le_mul_right _ (Qj hy);rw[Nat.add_mul,Nat.one_mul] at hb1;obtain⟨w',hrun,hkeep,hok'⟩:=v2t (P:=P) hoo hva rfl rfl (fun w=>Un h1 w) hlv hr.2.2 (hS1.get (i:=0) rfl) (by omega);have hE1:=hE.mono hs1;refine⟨w',σ1,ν,_,_,hrun,Ext.refl ν,fun m u hu=> .inl hu,w2j (h':=vec (.slice (some ⟨b,0,none⟩) l.length cap) ety (D.size T') l.length _) hS1 hkeep hok' rfl,⟨⟨_,Ug xs1 (i*D.size T'+off) (ev n f x).cells.toList,hν,by simp,?_,by simpa using hl47⟩,ho1⟩,rfl⟩;refine w1f hE1 hy (by rw[hr.1];exact h3) fun cs1 hcs1=> ?_
   have hx:=v1e hq;refine hD.bld _ _ _ _ _ hy' ?_;rw[hr.1,<-hx];have hh:=j7k hcs1 hrF (off:=off) (by rw[hD.len,hx];exact h3);rw[hrF.1] at hh;exact hh
 |aref T N o i off b hν hi=>
  simp only at h;split at h;case h_2=>exact h.elim
  rename_i ty T' N' l hob;obtain⟨hN,h⟩:=J1 h;have hN:=e9 hN;obtain⟨e1,h⟩:=q58 h;subst e1;obtain⟨cs,hcs,h⟩:=Ql h;obtain⟨q,hq,h⟩:=Ql h;obtain⟨hc,h⟩:=J1 h;obtain⟨hc,h3⟩:=Q6 hc;obtain⟨hc,h2⟩:=Q6 hc;obtain⟨h0,h1⟩:=Q6 hc;have h2:=e9 h2;have h3:=Nat.le_of_ble_eq_true h3;obtain⟨xs,fz⟩:=q;have hfz:fz=[]:=by simpa using h0
  subst hfz;obtain⟨hR,_⟩:=k.o o _ hob;obtain⟨_,_,_,_,_,hlN⟩:=hR;obtain⟨y,hy⟩:=getq (l:=l) (k:=i) (by omega);obtain⟨y',hy',h⟩:=Ql (h y hy);refine⟨_,_,_,[(o,.arr ty T' N' l)],h,rfl,by simp,by simpa using hob,fun ins ho hS oo hoo=> ?_⟩
  match ins,ho with
  |[m],ho=>
   obtain⟨b',cs0,hν',hm,hE,hN'⟩:=ho.1;rw[hν] at hν';cases hν';subst hm;have hok:=w5p (hS.get (i:=0) rfl);have hr:=q0z (k.e x) hcs;have hrF:=j0q hD hor hr hq;have hlv:(ev n f x).cells.toList.length=szQ P t:=by rw[hr.1,h2]
   have hb1:(i+1)*D.size T'<=l.length*D.size T':=Nat.mul_le_mul_right _ (Qj hy);rw[Nat.add_mul,Nat.one_mul] at hb1;have hl0:=hE.1
   refine⟨_,σ,ν,_,_,j0s (P:=P) hoo hva rfl rfl (fun w=>Un h1 w) hlv hr.2.2 hok (by omega),Ext.refl ν,fun m u hu=> .inl hu,
    w2j (h':=blk b ty _) hS (q13 hok _) (setRow_heap w b _ _ _ _ hok) rfl,⟨⟨b,_,hν,rfl,?_,by simpa using hN'⟩,trivial⟩,rfl⟩
   refine w1f hE hy (by rw[hr.1];exact h3) fun cs1 hcs1=> ?_
   have hx:=v1e hq;refine hD.bld _ _ _ _ _ hy' ?_;rw[hr.1,<-hx];have hh:=j7k hcs1 hrF (off:=off) (by rw[hD.len,hx];exact h3);rw[hrF.1] at hh;exact hh
 |_=>exact h.elim
end Go.Fx
end
noncomputable section
namespace Go.Fx
open Go Go.RowKit Go.Fl Go.Fl.Lk
variable {S:Sig}{P:Program}{D:Shp S}{ν ν':Nm}{σ τ:Hv}{n:Nat}{f:Fr}
variable {w:World}{e:Operand->SV S}{ob:Nat->Option (AO S)}{lkc:Nat->Nat->SV S}{oh:Nat->HObj}{c:Cx}
variable {nx:Nat}{K:List Nat->List (Nat×AO S)->Option (SV S)->Prop}
theorem v5x{t:TypeId}(hnx:ν nx=none)(h:Hb P D e ob nx (.makeMap t none) K):z2i P D ν σ w ob lkc nx (ev n f) (.makeMap t none) K:=by
 simp only[Hb] at h;split at h;case h_2=>exact h.elim
 rename_i Kc V hmc;refine⟨_,_,_,[],h,rfl,List.nodup_nil,by simp,fun ins ho hS oo hoo=> ?_⟩;cases ins with
 |cons=>exact ho.elim
 |nil=>
  refine⟨w.alloc (.map #[] 0),σ,ν.add nx (.map (some w.heap.size)),[z8f (kenc D Kc) w.heap.size fun _=>none],.value (.map (some w.heap.size)),by simp[execOp,hoo,Instr.makeMap],Nm.add_ext hnx,Nm.add_new,
   hS.add (Wb w _) ⟨#[],0,?_,by simp[z08],fun k=>rfl,by simp[MBk]⟩ (by rintro k ⟨⟩;exact Nat.le_refl _),⟨⟨_,_,Nm.add_self,rfl,fun k=>trivial⟩,trivial⟩,⟨_,rfl,.hnd nx _ Nm.add_self rfl⟩⟩
  exact heap_alloc_new _ _
theorem j7l{t:TypeId}{m x v:Operand}(hP:D.OkP P)(k:Kn D ν σ n f w e ob lkc oh)(h:Hb P D e ob nx (.mapUpdate t m x v) K):z2i P D ν σ w ob lkc nx (ev n f) (.mapUpdate t m x v) K:=by
 have hD:=hP.ok;have hor: ∀o a,ob o=some a->ORep D ν σ lkc o a (oh o):=fun o a h=>(k.o o a h).1
 simp only[Hb] at h;split at h;case h_2=>exact h.elim
 rename_i Kc V o ks vs hmc hm hks hvs;obtain⟨kt,et,hu,hK,hkey,hT,hA,hsz,z,hz,hzr⟩:=hP.map _ _ _ hmc;split at h;case h_2=>exact h.elim
 rename_i K' V' F hob;obtain⟨q,hq,h⟩:=Ql h;obtain⟨q',hq',h⟩:=Ql h;obtain⟨fz,hfz,h⟩:=Ql h;obtain⟨hc,h⟩:=J1 h;obtain⟨h0,h1⟩:=Q6 hc;obtain⟨ky,hky,h⟩:=Ql h;obtain⟨y,hy,h⟩:=Ql h;obtain⟨e1,e2,hfin⟩:=q7z h;clear h;subst e1 e2;obtain⟨xs,fx⟩:=q;obtain⟨ys,fn⟩:=q';have hfx:fx=[]:=by simpa using h0
 subst hfx;obtain⟨tlo,ht1,ht2,ht3,_⟩:=z1b hfz;have hno:o∉fn:=z67 (by simpa using h1);refine⟨_,_,_,(o,.map K' V' F)::tlo,hfin,by simp[ht1],List.nodup_cons.2 ⟨hno,ht2⟩,?_,fun ins ho hS oo hoo=> ?_⟩
 .intro q hq;rcases List.mem_cons.1 hq with rfl|hq
  .exact hob
  .exact ht3 q hq
 match ins,ho with
 |mo::ins,ho=>
  obtain⟨b,mm,hν,hmo,hF⟩:=ho.1;subst hmo;obtain⟨σ1,ms1,hS1,hs1,ho1⟩:=q70 (ms:=[z8f (kenc D K') b mm]) hD hfz ht1 ht3 ho.2 hS;have hrow:=j0q hD hor (q0z (k.e x) (z66 hks)) hq;have hrow2:=hD.bld _ _ _ _ _ hky hrow;have hxv:ev n f x=kenc D K' ky:=by unfold kenc;rw[<-w8o hrow2 (hkey ky)];exact j0r (k.e x) hks
  have hmv:ev n f m= .map (some b):=Uo (hm▸k.e m) hν;have hvr:=j23 hD hor hs1 (q0z (k.e v) (z66 hvs)) hq' (j24 hfz ho1);have hvr2:=hD.bld _ _ _ _ _ hy hvr;have hvv:=j0r (k.e v) hvs;obtain⟨w',hrun,hkeep,hok⟩:=v9x (k:=ky) (v:=ev n f v) hK hu (hS1.get (i:=0) rfl);refine⟨w',σ1,ν,_,_,by simp only[execOp,hoo,hmv,hxv,Sem.run_bind,hrun,Result.andThen_ok];rfl,Ext.refl ν,fun m u hu=> .inl hu,w2j hS1 hkeep hok rfl,⟨⟨b,_,hν,rfl,fun k'=> ?_⟩,ho1⟩,rfl⟩;unfold put;by_cases hk:k'=ky
  .rw[if_pos hk,if_pos hk];exact⟨_,hvr2,hvv⟩
  .rw[if_neg hk,if_neg hk];exact (hF k').imp fun v y h=>h.mono hs1
theorem v95{t:TypeId}{m x v:Operand}(hP:D.OkP P)(k:Kn D ν σ n f w e ob lkc oh)(h:Hb P D e ob nx (.insert t m x v) K):z2i P D ν σ w ob lkc nx (ev n f) (.insert t m x v) K:=by have h:Hb P D e ob nx (.mapUpdate t m x v) K:=h;obtain⟨tl,outs,sv,tlo,h1,h2,h3,h4,h5⟩:=j7l hP k h;refine⟨tl,outs,sv,tlo,h1,h2,h3,h4,fun ins ho hS oo hoo=> ?_⟩;obtain⟨w',σ',ν',ms',u,hr,hrest⟩:=h5 ins ho hS {oo with op:= .mapUpdate t m x v} rfl;refine⟨w',σ',ν',ms',u,?_,hrest⟩;rw[<-hr];simp only[execOp,hoo]
theorem v96{args:Array Operand}{ts:Array TypeId}(hP:D.OkP P)(k:Kn D ν σ n f w e ob lkc oh)(h:Hb P D e ob nx (.call ⟨.builtin .delete,args,ts⟩) K):z2i P D ν σ w ob lkc nx (ev n f) (.call ⟨.builtin .delete,args,ts⟩) K:=by
 have hD:=hP.ok;have hor: ∀o a,ob o=some a->ORep D ν σ lkc o a (oh o):=fun o a h=>(k.o o a h).1
 simp only[Hb] at h;split at h;case h_2=>exact h.elim
 rename_i m x t t' ha ht;have ha':args= #[m,x]:=by apply Array.ext';simpa using ha
 have ht':ts= #[t,t']:=by apply Array.ext';simpa using ht
 split at h;case h_2=>exact h.elim
 rename_i Kc V o ks hmc hm hks;obtain⟨kt,et,hu,hK,hkey,hT,hA,hsz,z,hz,hzr⟩:=hP.map _ _ _ hmc;split at h;case h_2=>exact h.elim
 rename_i K' V' F hob;obtain⟨q,hq,h⟩:=Ql h;obtain⟨hc,h⟩:=J1 h;obtain⟨ky,hky,h⟩:=Ql h;obtain⟨e1,e2,hfin⟩:=q7z h;clear h;subst e1 e2;obtain⟨xs,fx⟩:=q;have hfx:fx=[]:=by simpa using hc
 subst hfx;subst ha';refine⟨_,_,_,[(o,.map K' V' F)],hfin,rfl,by simp,by simpa using hob,fun ins ho hS oo hoo=> ?_⟩
 match ins,ho with
 |[mo],ho=>
  obtain⟨b,mm,hν,hmo,hF⟩:=ho.1;subst hmo;have hrow:=j0q hD hor (q0z (k.e x) (z66 hks)) hq;have hrow2:=hD.bld _ _ _ _ _ hky hrow;have hxv:ev n f x=kenc D K' ky:=by unfold kenc;rw[<-w8o hrow2 (hkey ky)];exact j0r (k.e x) hks
  have hmv:ev n f m= .map (some b):=Uo (hm▸k.e m) hν;obtain⟨w',hrun,hkeep,hok⟩:=v9y (k:=ky) (tt:=oo.type) (ts:=ts) hK hu (by rw[ht'];rfl) (hS.get (i:=0) rfl);refine⟨w',σ,ν,_,.value (.tuple #[]),by simp only[execOp,hoo,resolve,invoke,builtin,Sem.run_bind,Sem.run_pure,Result.andThen_ok,List.map_toArray,List.map_cons,List.map_nil,hmv,hxv,hrun],Ext.refl ν,fun m u hu=> .inl hu,w2j hS hkeep hok rfl,⟨⟨b,_,hν,rfl,fun k'=> ?_⟩,trivial⟩,⟨_,rfl,.tup [] [] rfl (by simp)⟩⟩;unfold dlt;by_cases hk:k'=ky
  .rw[if_pos hk,if_pos hk];trivial
  .rw[if_neg hk,if_neg hk];exact hF k'
theorem y7u{T:S.C}(hD:D.Ok)(hor: ∀o a,ob o=some a->ORep D ν σ lkc o a (oh o))(hs':Sub σ τ): ∀{vs:List Value} {ss:List (SV S)} {l:List (S.car T)} {fn:List Nat},vs.length=ss.length->
  (∀(j:Nat) v s,vs[j]? =some v->ss[j]? =some s->SRep D ν σ v s)->v08 D ob T ss=some (l,fn)->(∀o e T l v,o∈fn->ob o=some (.vec e T l)->ν o=some v->RepF D τ v (.sl T l))->
  Els D τ T (vs.flatMap fun v=>v.cells.toList) l/\l.length=vs.length/\∀v∈vs,v.cells.toList.length=D.size T/\∀u∈v.cells.toList,u.oneCell'=true:=by
 intro vs
 induction vs with
 |nil=>
  intro ss l fn hl _ h _;cases ss with
  |cons=>cases hl
  |nil=>cases h;exact⟨⟨by simp,fun i x hx=>by simp at hx⟩,rfl,by simp⟩
 |cons v vs ih=>
  intro ss l fn hl hr h hf;cases ss with
  |nil=>cases hl
  |cons s ss=>
   simp only[v08] at h;split at h;case h_2=>cases h
   rename_i cs hcs;split at h;case h_2=>cases h
   rename_i xs a hxs;split at h;case h_2=>cases h
   rename_i y ys b hy hys;cases h;have hc:=q0z (hr 0 v s rfl rfl) hcs;have hrow:=j23 hD hor hs' hc hxs (fun o e T l v hm=>hf o e T l v (by simp[hm]));have hrow2:=hD.bld _ _ _ _ _ hy hrow;have hlen:v.cells.toList.length=D.size T:=by rw[hrow2.1,hD.len]
   obtain⟨h1,h2,h3⟩:=ih (ss:=ss) (by simpa using hl) (fun j v s hj hk=>hr (j+1) v s (by simpa using hj) (by simpa using hk)) hys (fun o e T l v hm=>hf o e T l v (by simp[hm]));refine⟨⟨?_,fun i x hx=> ?_⟩,by simp[h2],?_⟩
   .have:=h1.1;rw[List.flatMap_cons,List.length_append,hlen,this,List.length_cons,Nat.add_mul,Nat.one_mul,Nat.add_comm]
   .rw[List.flatMap_cons];cases i with
    |zero=>
     cases hx;rw[Nat.zero_mul,List.drop_zero,List.take_append_of_le_length (by omega),t99 (by omega)];exact hrow2
    |succ i=>
     rw[Nat.add_mul,Nat.one_mul,Nat.add_comm,<-List.drop_drop,List.drop_left' hlen];exact h1.2 i x (by simpa using hx)
   .intro u hu;rcases List.mem_cons.1 hu with rfl|hu
    .exact⟨hlen,hc.2.2⟩
    .exact h3 u hu
theorem v97{sz:Nat}{r:Operand->Value}: ∀(parts:List (Nat×Operand)) (i:Nat) (done rest:List Value),w2h i parts=true->done.length=i*sz->(∀q∈parts,(r q.2).cells.toList.length=sz)->rest.length=parts.length*sz->
  Instr.fill (fun i=>some (i*sz,sz)) (done++rest).toArray (parts.map fun q=>(q.1,r q.2))=some (done++(parts.flatMap fun q=>(r q.2).cells.toList)).toArray:=by
 intro parts
 induction parts with
 |nil=>
  intro i done rest _ _ _ hr;have:rest=[]:=List.eq_nil_of_length_eq_zero (by simpa using hr);subst this;rfl
 |cons q parts ih=>
  intro i done rest hi hd hs hr;obtain⟨j,x⟩:=q;simp only[w2h] at hi;obtain⟨h1,h2⟩:=Q6 hi;have h1:=e9 h1;subst h1;have hx:=hs (i,x) (by simp);simp only at hx;rw[List.length_cons,Nat.add_mul,Nat.one_mul] at hr;rw[List.map_cons,Instr.fill];simp only;have hsz:(r x).cells.size=sz:=by rw[<-Array.length_toList,hx]
  rw[if_neg (by simp only[hsz,ne_eq,not_true_eq_false,decide_false,Bool.false_or,decide_eq_true_eq,List.size_toArray,List.length_append];omega)];have h3:=j7h (r x).cells.toList (done++rest) (i*sz) (by rw[hx,List.length_append];omega);have e1:(done++rest).take (i*sz)=done:=by rw[<-hd];simp
  have e2:(done++rest).drop (i*sz+(r x).cells.toList.length)=rest.drop sz:=by rw[<-hd,hx,<-List.drop_drop];simp
  rw[e1,e2] at h3;have h4:(r x).cells.zipIdx.foldl (fun cs (q:Value×Nat)=>cs.setIfInBounds (i*sz+q.2) q.1) (done++rest).toArray=((done++(r x).cells.toList)++rest.drop sz).toArray:=by rw[<-h3,<-Array.foldl_toList,Array.toList_zipIdx]
  have h5:=ih (i+1) (done++(r x).cells.toList) (rest.drop sz) h2 (by rw[List.length_append,hd,hx,Nat.add_mul,Nat.one_mul]) (fun q hq=>hs q (by simp[hq])) (by rw[List.length_drop,hr];omega);rw[<-h4] at h5;rw[h5,List.flatMap_cons,List.append_assoc]
theorem w5q{t:TypeId}{len:Nat}{parts:Array (Nat×Operand)}(hP:D.OkP P)(hnx:ν nx=none)(k:Kn D ν σ n f w e ob lkc oh)(h:Hb P D e ob nx (.buildSlice t len parts) K):z2i P D ν σ w ob lkc nx (ev n f) (.buildSlice t len parts) K:=by
 have hD:=hP.ok;have hor: ∀o a,ob o=some a->ORep D ν σ lkc o a (oh o):=fun o a h=>(k.o o a h).1
 simp only[Hb] at h;split at h;case h_2=>exact h.elim
 rename_i el hu;split at h;case h_2=>exact h.elim
 rename_i T hcode;obtain⟨hc,h⟩:=J1 h;obtain⟨hc,h6⟩:=Q6 hc;obtain⟨hc,h5⟩:=Q6 hc;obtain⟨hc,h4⟩:=Q6 hc;obtain⟨hc,h3⟩:=Q6 hc;obtain⟨h1,h2⟩:=Q6 hc;have h2:=e9 h2;have h4:=e9 h4;have h5:=Nat.le_of_ble_eq_true h5;obtain⟨q,hq,h⟩:=Ql h;obtain⟨fz,hfz,h⟩:=Ql h;obtain⟨l,fn⟩:=q;obtain⟨tlo,ht1,ht2,ht3,_⟩:=z1b hfz;refine⟨_,_,_,tlo,h,ht1,ht2,ht3,fun ins ho hS oo hoo=> ?_⟩;obtain⟨σ1,ms1,hS1,hs1,ho1⟩:=q70 (ms:=[]) hD hfz ht1 ht3 ho hS;rw[List.nil_append] at hS1
 obtain⟨hE,hl,hcell⟩:=y7u (T:=T) (vs:=parts.toList.map fun q=>ev n f q.2) hD hor hs1 (by simp) (fun j v s hj hs=>by
  rw[List.getElem?_map] at hj hs;rcases hp:parts.toList[j]? with _|x
  .rw[hp] at hj;cases hj
  .rw[hp] at hj hs;cases hj;cases hs;exact k.e _) hq (j24 hfz ho1)
 have hlen:l.length=len:=by rw[hl,<-h4];simp
 obtain⟨z,hz⟩:=Option.isSome_iff_exists.1 h6;obtain⟨i,hi,hz⟩:=Option.bind_eq_some_iff.1 hz;have hrest:((Array.range (len*szQ P el)).map fun j=>(if len*szQ P el=0 then (#[]:Array Value) else z.cells)[j % (if len*szQ P el=0 then (#[]:Array Value) else z.cells).size]!).toList.length=parts.toList.length*szQ P el:=by simp[<-h4]
 have hfill:=v97 (r:=ev n f) (sz:=szQ P el) parts.toList 0 [] _ h3 (by simp) (fun q hq=>by rw[h2];exact (hcell (ev n f q.2) (List.mem_map.2 ⟨q,hq,rfl⟩)).1) hrest;have hpm:(parts.map fun (i,x)=>(i,ev n f x)).toList=parts.toList.map fun q=>(q.1,ev n f q.2):=by simp
 have hfm:(parts.toList.flatMap fun q=>(ev n f q.2).cells.toList)=(parts.toList.map fun q=>ev n f q.2).flatMap fun v=>v.cells.toList:=by rw[List.flatMap_map]
 rw[List.nil_append,Array.toArray_toList,List.nil_append,hfm] at hfill;have hcl:((parts.toList.map fun q=>ev n f q.2).flatMap fun v=>v.cells.toList).length=len*D.size T:=by rw[hE.1,hlen]
 have hrun:(execOp (ev n f) oo).run P w= .ok (.value (.slice (some ⟨w.heap.size,0,none⟩) len len)) (w.alloc (.cells ((parts.toList.map fun q=>ev n f q.2).flatMap fun v=>v.cells.toList).toArray el)):=by
  have hzr: ∀w,(zeroValue el).run P w= .ok z w:=by intro w;simp[zeroValue,typeInfo,hi,hz]
  have hbig: ¬len*szQ P el>2 ^ 24:=by omega
  by_cases h0:len*szQ P el=0
  .rw[if_pos h0] at hfill;simp only[execOp,hoo,Instr.buildSlice,Sem.run_bind,run_underlying hu,Result.andThen_ok,Un h1,if_neg hbig,if_pos h0,Sem.run_pure,hpm];rw[hfill];simp[newRow,newObj,Sem.run]
  .rw[if_neg h0] at hfill;simp only[execOp,hoo,Instr.buildSlice,Sem.run_bind,run_underlying hu,Result.andThen_ok,Un h1,if_neg hbig,if_neg h0,Sem.run_pure,hzr,hpm];rw[hfill];simp[newRow,newObj,Sem.run]
 refine⟨_,σ1,ν.add nx (.slice (some ⟨w.heap.size,0,none⟩) len len),vec (.slice (some ⟨w.heap.size,0,none⟩) len len) el (D.size T) len ((parts.toList.map fun q=>ev n f q.2).flatMap fun v=>v.cells.toList)::ms1,_,hrun,Nm.add_ext hnx,Nm.add_new,?_,
  ⟨⟨_,_,Nm.add_self,by rw[hlen],hE,?_⟩,ho1.mono (Nm.add_ext hnx) (Sub.refl _)⟩,⟨_,rfl,.hnd nx _ Nm.add_self rfl⟩⟩
 .refine hS1.add (Wb w _) ?_ (by rintro k ⟨⟩;exact Nat.le_refl _);refine⟨hcl,.inr ⟨_,len,_,rfl,Nat.zero_le _,heap_alloc_new _ _,Nat.le_refl _,?_,by simp[<-hcl],?_⟩⟩
  .have:len<=len*szQ P el:=Nat.le_mul_of_pos_right _ (by rw[h2];exact hD.pos T);simp only[maxLen];omega
  .show List.take _ _=_;exact t99 (by rw[Array.length_toList] at*;simpa using Nat.le_of_eq hcl)
 .have:len<=len*szQ P el:=Nat.le_mul_of_pos_right _ (by rw[h2];exact hD.pos T);show l.length<=_;omega
theorem y4m(hD:D.Ok){T:S.C}{z:S.car T}{cs:List Value}(hz:RowF D σ cs (D.shape T z))(k:Nat):Els D σ T ((List.replicate k cs).flatten) (List.replicate k z):=by
 have hl:cs.length=D.size T:=by rw[hz.1,hD.len]
 induction k with
 |zero=>exact⟨by simp,fun i x hx=>by simp at hx⟩
 |succ k ih=>
  refine⟨?_,fun i x hx=> ?_⟩
  .have:=ih.1;rw[List.replicate_succ,List.flatten_cons,List.length_append,this,hl,List.replicate_succ,List.length_cons,Nat.add_mul,Nat.one_mul,Nat.add_comm]
  .rw[List.replicate_succ,List.flatten_cons];rw[List.replicate_succ] at hx;cases i with
   |zero=>
    cases hx;rw[Nat.zero_mul,List.drop_zero,List.take_append_of_le_length (by omega),t99 (by omega)];exact hz
   |succ i=>
    rw[Nat.add_mul,Nat.one_mul,Nat.add_comm,<-List.drop_drop,List.drop_left' hl];exact ih.2 i x (by simpa using hx)
theorem v5y(cs:List Value)(k:Nat):(madeCells cs.toArray (k*cs.length)).toList=(List.replicate k cs).flatten:=by
 have hlen:(List.replicate k cs).flatten.length=k*cs.length:=by simp
 apply List.ext_getElem?;intro m;rcases Nat.lt_or_ge m (k*cs.length) with hm|hm
 .have hpos:0<cs.length:=by
   rcases Nat.eq_zero_or_pos cs.length with h|h
   .rw[h] at hm;omega
   .exact h
  have hi:m / cs.length<k:=by rw[Nat.div_lt_iff_lt_mul hpos];exact hm
  have e1:(List.replicate k cs).flatten[m]? =cs[m % cs.length]? :=by
   have key: ∀(k m:Nat),m<k*cs.length->(List.replicate k cs).flatten[m]? =cs[m % cs.length]? :=by
    intro k
    induction k with
    |zero=>intro m hm;simp at hm
    |succ k ih=>
     intro m hm;rw[List.replicate_succ,List.flatten_cons];rw[Nat.add_mul,Nat.one_mul] at hm;rcases Nat.lt_or_ge m cs.length with h|h
     .rw[List.getElem?_append_left h,Nat.mod_eq_of_lt h]
     .rw[List.getElem?_append_right h,ih _ (by omega),Nat.mod_eq_sub_mod h]
   exact key k m hm
  rw[e1];have hlt:=Nat.mod_lt m hpos;simp[madeCells,hm,hlt]
 .rw[List.getElem?_eq_none (by simpa [madeCells] using hm),List.getElem?_eq_none (by rw[hlen];exact hm)]
theorem j7m{x:Operand}{i:Int}(k:Kn D ν σ n f w e ob lkc oh)(h:intQ (e x)=some i):ev n f x= .int .i64 i:=by
 have hx:=k.e x;generalize e x=s at h hx;unfold intQ at h;split at h
 .cases h;exact Gf hx
 .cases h
theorem w5r(w:World)(t e:TypeId)(i:TypeInfo)(z:Value)(size:Nat)(ht:P.underlying t=some (.slice e))(hi:P.info? e=some i)(hz:i.zero=some z)(hsize:i.size=size)(hzl:z.cells.toList.length=size)
  (n c:Nat)(hnc:n<=c)(hbytes:i.bytes*c<=281474976710656)(h63:c<=maxLen):
  ∃w',(Instr.makeSlice t (.int .i64 (n:Int)) (.int .i64 (c:Int))).run P w= .ok (.slice (some ⟨w.heap.size,0,none⟩) n c) w'/\
   w'.ownsRow 0 e size (.slice (some ⟨w.heap.size,0,none⟩) n c) n (List.replicate n z.cells.toList).flatten/\w.grownBy w' none:=by
 subst hsize;have h63':(c:Int)<=9223372036854775807:=by have h:=h63;simp[maxLen] at h;omega
 have hb':(i.bytes:Int)*(c:Int)<=281474976710656:=by
  have h:((i.bytes*c:Nat):Int)<=281474976710656:=by omega
  rwa [Int.natCast_mul] at h
 have hr:=run_make (P:=P) w t e i z ht hi hz .i64 .i64 n c (by omega) (by omega) hb' h63';simp only[Int.toNat_natCast] at hr;have hmade:(madeCells z.cells (c*i.size)).toList=(List.replicate c z.cells.toList).flatten:=by have:=v5y z.cells.toList c;rw[hzl,Array.toArray_toList] at this;exact this
 refine⟨_,hr,⟨by simp[hzl],.inr ⟨w.heap.size,c,madeCells z.cells (c*i.size),rfl,Nat.zero_le _,heap_alloc_new w _,hnc,h63,size_madeCells _ _,?_⟩⟩,World.grownBy_alloc w _ none⟩;obtain⟨d,rfl⟩: ∃d,c=n+d:=⟨c - n,by omega⟩;rw[hmade,<-List.replicate_append_replicate,List.flatten_append,List.take_append_of_le_length (by simp[hzl]),t99 (by simp[hzl])]
theorem w8q{t:TypeId}{x y:Operand}(hP:D.OkP P)(hnx:ν nx=none)(k:Kn D ν σ n f w e ob lkc oh)(h:Hb P D e ob nx (.makeSlice t x y) K):z2i P D ν σ w ob lkc nx (ev n f) (.makeSlice t x y) K:=by
 have hD:=hP.ok;simp only[Hb] at h;split at h;case h_2=>exact h.elim
 rename_i el hu;split at h;case h_2=>exact h.elim
 rename_i T a b hcode ha hb;split at h;case h_2=>exact h.elim
 rename_i i hi;obtain⟨hc,⟨h0,hab,hsm⟩,hfin⟩:=J1 h;clear h;obtain⟨hc,h4⟩:=Q6 hc;obtain⟨hc,h3⟩:=Q6 hc;obtain⟨h1,h2⟩:=Q6 hc;have h2:=e9 h2;have h4:=Nat.le_of_ble_eq_true h4;obtain⟨z,hz⟩:=Option.isSome_iff_exists.1 h3;have hzr:=hP.zero _ _ _ _ hcode hi hz;refine⟨_,_,_,[],hfin,rfl,List.nodup_nil,by simp,fun ins ho hS oo hoo=> ?_⟩;cases ins with
 |cons=>exact ho.elim
 |nil=>
  have hsm':=z07 hsm h4;have hka:a=((a.toNat:Nat):Int):=by omega
  have hkb:b=((b.toNat:Nat):Int):=by omega
  have hzl:z.cells.toList.length=D.size T:=by rw[(hzr σ).1,hD.len]
  obtain⟨w',hr,hown,hg⟩:=w5r (P:=P) w t el i z (D.size T) hu hi hz h2 hzl a.toNat b.toNat (by omega) (by rw[Nat.mul_comm];omega) hsm'.2;have hrun:(execOp (ev n f) oo).run P w= .ok (.value (.slice (some ⟨w.heap.size,0,none⟩) a.toNat b.toNat)) w':=by have hxa:=j7m k ha;have hya:=j7m k hb;rw[hka] at hxa;rw[hkb] at hya;simp only[execOp,hoo,hxa,hya,Sem.run_bind,hr,Result.andThen_ok];rfl
  refine⟨w',σ,ν.add nx (.slice (some ⟨w.heap.size,0,none⟩) a.toNat b.toNat),[vec (.slice (some ⟨w.heap.size,0,none⟩) a.toNat b.toNat) el (D.size T) a.toNat (List.replicate a.toNat z.cells.toList).flatten],_,hrun,Nm.add_ext hnx,Nm.add_new,?_,
   ⟨⟨_,(List.replicate a.toNat z.cells.toList).flatten,Nm.add_self,by rw[List.length_replicate],y4m hD (hzr σ) _,?_⟩,trivial⟩,⟨_,rfl,.hnd nx _ Nm.add_self rfl⟩⟩
  .exact hS.add ⟨hg.os,hg.tape,hg.output,hg.size,fun k hk _=>hg.block k hk (by simp)⟩ hown (by rintro k ⟨⟩;exact Nat.le_refl _)
  .have:=hsm;unfold Sml at this;simp;omega
theorem RSl.row{α:Type}{size:Nat}{R:Hv->List Value->α->Prop}{v:Value}{l:List α}(h:RSl size R σ v l): ∃a cap,v= .slice a l.length cap/\((a=none/\l=[])\/ ∃ad xs,a=some ad/\xs.length=l.length*size/\VRow σ ad xs/\
  ∀(i:Nat) x,l[i]? =some x->R σ ((xs.drop (i*size)).take size) x):=by
 obtain⟨a,cap,h1,h2,h3,h4⟩:=h;refine⟨a,cap,h1,?_⟩;cases a with
 |none=>
  left;refine⟨rfl,?_⟩;cases l with
  |nil=>rfl
  |cons x l=>obtain⟨_,_,h0,_⟩:=h4 0 x rfl;cases h0
 |some ad=>
  right;refine⟨ad,(List.range (l.length*size)).map fun m=>(σ.cell (ad.add m)).getD undef,rfl,by simp,?_,?_⟩
  .intro j u hj;rw[List.getElem?_map] at hj;rcases Nat.lt_or_ge j (l.length*size) with hlt|hge
   .rw[List.getElem?_range hlt] at hj;have hpos:0<size:=by
     rcases Nat.eq_zero_or_pos size with h|h
     .rw[h] at hlt;omega
     .exact h
    have hdiv:j / size<l.length:=by rw[Nat.div_lt_iff_lt_mul hpos];exact hlt
    obtain⟨x,hx⟩:=getq hdiv;obtain⟨ad',cs,ha,hl,hr,_⟩:=h4 _ x hx;cases ha;obtain⟨u',hu'⟩:=getq (l:=cs) (k:=j % size) (by rw[hl];exact Nat.mod_lt _ hpos);have:=hr _ u' hu';rw[q2i] at this;have e:j / size*size+j % size=j:=by rw[Nat.mul_comm];exact Nat.div_add_mod j _
    rw[e] at this;simp only[Option.map_some,this,Option.getD_some,Option.some.injEq] at hj;rw[this,hj]
   .rw[List.getElem?_eq_none (by simpa using hge)] at hj;cases hj
  .intro i x hx;obtain⟨ad',cs,ha,hl,hr,hR⟩:=h4 i x hx;cases ha;have hi:=Qj hx;have hm:(i+1)*size<=l.length*size:=Nat.mul_le_mul_right _ hi;rw[Nat.add_mul,Nat.one_mul] at hm;have e:(((List.range (l.length*size)).map fun m=>(σ.cell (ad.add m)).getD undef).drop (i*size)).take size=cs:=by
    apply List.ext_getElem?;intro j;rw[List.getElem?_take];split
    .rename_i hj;rw[List.getElem?_drop,List.getElem?_map,List.getElem?_range (by omega)];obtain⟨u,hu⟩:=getq (l:=cs) (k:=j) (by omega);have:=hr j u hu;rw[q2i] at this;rw[hu,Option.map_some,this];rfl
    .rename_i hj;rw[List.getElem?_eq_none (by omega)]
   rw[e];exact hR
theorem v2u{T:S.C}{xs ys:List Value}{l l':List (S.car T)}(h:Els D σ T xs l)(h':Els D σ T ys l'):Els D σ T (xs++ys) (l++l'):=by
 refine⟨by rw[List.length_append,h.1,h'.1,List.length_append,Nat.add_mul],fun i x hx=> ?_⟩;rcases Nat.lt_or_ge i l.length with hlt|hge
 .rw[List.getElem?_append_left hlt] at hx;have hm:(i+1)*D.size T<=l.length*D.size T:=Nat.mul_le_mul_right _ hlt;rw[Nat.add_mul,Nat.one_mul,<-h.1] at hm;have e:((xs++ys).drop (i*D.size T)).take (D.size T)=(xs.drop (i*D.size T)).take (D.size T):=by rw[List.drop_append_of_le_length (by omega),List.take_append_of_le_length (by rw[List.length_drop];omega)]
  rw[e];exact h.2 i x hx
 .rw[List.getElem?_append_right hge] at hx;have e:i*D.size T=xs.length+(i - l.length)*D.size T:=by rw[h.1,<-Nat.add_mul];congr 1;omega
  rw[e,<-List.drop_drop,List.drop_left' rfl];exact h'.2 _ x hx
theorem v98{T:S.C}{xs:List Value}{l:List (S.car T)}(hD:D.Ok)(h:Els D σ T xs l): ∀u∈xs,u.oneCell'=true:=by
 intro u hu;obtain⟨j,hj⟩:=List.mem_iff_getElem?.1 hu;have hjl:=Qj hj;have hpos:=hD.pos T;have hdiv:j / D.size T<l.length:=by rw[Nat.div_lt_iff_lt_mul hpos,<-h.1];exact hjl
 obtain⟨y,hy⟩:=getq hdiv;have hrow:=h.2 _ y hy;have hm:((xs.drop (j / D.size T*D.size T)).take (D.size T))[j % D.size T]? =some u:=by
  rw[List.getElem?_take_of_lt (Nat.mod_lt _ hpos),List.getElem?_drop];have:j / D.size T*D.size T+j % D.size T=j:=by rw[Nat.mul_comm];exact Nat.div_add_mod j _
  rw[this];exact hj
 obtain⟨s,hs⟩:=getq (l:=D.shape T y) (k:=j % D.size T) (by rw[<-hrow.1];exact Qj hm);exact (hrow.2 _ u s hm hs).one
def Src(D:Shp S)(σ:Hv)(w:World)(T:S.C)(v:Value)(l:List (S.car T)):Prop:=
 ∃a cap,v= .slice a l.length cap/\((a=none/\l=[])\/ ∃ad ys,a=some ad/\Row w ad ys/\Els D σ T ys l)
theorem j0t{t el:TypeId}{T:S.C}{i:TypeInfo}{z v yv:Value}{xs:List Value}{l l':List (S.car T)}(hD:D.Ok)(hu:P.underlying t=some (.slice el))(hi:P.info? el=some i)(hz:i.zero=some z)(hsz:i.size=D.size T)(hzl:z.cells.size=D.size T)
  (hb:i.bytes<=32768)(hE:Els D σ T xs l)(hok:(vec v el (D.size T) l.length xs).ok w)(hs:Src D σ w T yv l')(hsm:Sml (l++l').length){x y:Operand}{ts:Array TypeId}{r:Operand->Value}(hx:r x=v)(hy:r y=yv)(hts:ts= #[t,t]){oo:Oper}(hoo:oo.op= .call ⟨.builtin .append,#[x,y],ts⟩):
  ∃v' w' xs',(execOp r oo).run P w= .ok (.value v') w'/\Els D σ T xs' (l++l')/\(vec v' el (D.size T) (l++l').length xs').ok w'/\Keeps v.ownBlock.toList w w'/\(∀b,v'.ownBlock=some b->v.ownBlock=some b\/w.heap.size<=b):=by
 subst hts;obtain⟨a,cap,rfl,hs⟩:=hs;have run: ∀v' w',(Builtin.append_ #[t,t] oo.type #[v,.slice a l'.length cap]).run P w= .ok v' w'->(execOp r oo).run P w= .ok (.value v') w':=by intro v' w' h;simp only[execOp,hoo,resolve,invoke,builtin,Sem.run_bind,Sem.run_pure,Result.andThen_ok,List.map_toArray,List.map_cons,List.map_nil,hx,hy,h]
 rcases hs with ⟨rfl,rfl⟩|⟨ad,ys,rfl,hrow,hE'⟩
 .have hr:=j5i (P:=P) (w:=w) 0 t oo.type el i (D.size T) cap hu hi v l.length xs hok;refine⟨v,w,xs,run _ _ hr,by simpa using hE,by simpa using hok,Keeps.refl _ _,fun b hb=> .inl hb⟩
 .have hsm2:=z07 hsm hb;rw[List.length_append] at hsm2;obtain⟨v',w',hr,ho,hk,hf⟩:=v44 (P:=P) (ty':=oo.type) (cc:=cap) hu hi hz hsz rfl hzl (hD.pos T) hok hE'.1 hrow (v98 hD hE') hsm2.1 hsm2.2;exact⟨v',w',xs++ys,run _ _ hr,v2u hE hE',by rw[List.length_append];exact ho,hk,hf⟩
theorem v5z{T:S.C}{v:Value}{el:TypeId}{ys:List Value}{l:List (S.car T)}(hok:(vec v el (D.size T) l.length ys).ok w)(hE:Els D σ T ys l):Src D σ w T v l:=by
 rcases (q2k hok).2 with ⟨rfl,h0⟩|⟨g,cap,rfl,_⟩
 .have:l=[]:=List.eq_nil_of_length_eq_zero h0;subst this;exact⟨none,0,rfl,.inl ⟨rfl,rfl⟩⟩
 .exact⟨_,cap,rfl,.inr ⟨_,ys,rfl,j2x hok,hE⟩⟩
theorem y2w{T:S.C}{v:Value}{l:List (S.car T)}(hD:D.Ok)(hV:View σ w)(h:RepF D σ v (.sl T l)):Src D σ w T v l:=by
 obtain⟨a,cap,hv,h⟩:=RSl.row (h.toRSl hD);rcases h with ⟨rfl,rfl⟩|⟨ad,xs,rfl,hl,hr,hR⟩
 .exact⟨none,cap,hv,.inl ⟨rfl,rfl⟩⟩
 .exact⟨some ad,cap,hv,.inr ⟨ad,xs,rfl,hr.row hV,hl,hR⟩⟩
theorem j25{el:TypeId}{T:S.C}{s:SV S}{a:List Nat}{l:List (S.car T)}(h:ownQ el T ob s=some (a,l)):(s= .f .nils/\a=[]/\l=[])\/ ∃o,s= .hnd o/\a=[o]/\ob o=some (.vec el T l):=by
 cases s with
 |f x=>
  cases x with
  |nils=>cases h;exact .inl ⟨rfl,rfl,rfl⟩
  |_=>cases h
 |hnd o=>
  simp only[ownQ] at h;split at h;case h_2=>cases h
  rename_i e T' l0 hob;cases hb:Nat.beq e el with
  |false=>rw[hb] at h;cases h
  |true=>
   rw[hb] at h;have hb:=e9 hb;simp only[cond_true] at h;split at h;case h_2=>cases h
   rename_i he _;cases h;subst he hb;exact .inr ⟨o,rfl,rfl,hob⟩
 |_=>cases h
theorem y4n{el:TypeId}{T:S.C}{s:SV S}{b:List Nat}{l:List (S.car T)}(h:srcQ el T ob s=some (b,l)):
  (s= .f .nils/\b=[]/\l=[])\/(s= .f (.sl T l)/\b=[])\/(∃o,s= .hnd o/\b=[o]/\ob o=some (.vec el T l))\/ ∃o,s= .hnd o/\b=[]/\ob o=some (.frz T l):=by
 cases s with
 |f x=>
  cases x with
  |nils=>cases h;exact .inl ⟨rfl,rfl,rfl⟩
  |sl T' l'=>
   simp only[srcQ] at h;split at h;case h_2=>cases h
   rename_i he _;cases h;subst he;exact .inr (.inl ⟨rfl,rfl⟩)
  |_=>cases h
 |hnd o=>
  simp only[srcQ] at h;split at h
  .rename_i e T' l0 hob;cases hb:Nat.beq e el with
   |false=>rw[hb] at h;cases h
   |true=>
    rw[hb] at h;have hb:=e9 hb;simp only[cond_true] at h;split at h;case h_2=>cases h
    rename_i he _;cases h;subst he hb;exact .inr (.inr (.inl ⟨o,rfl,rfl,hob⟩))
  .rename_i T' l0 hob;split at h;case h_2=>cases h
   rename_i he _;cases h;subst he;exact .inr (.inr (.inr ⟨o,rfl,rfl,hob⟩))
  .cases h
 |_=>cases h
theorem v1f{T:S.C}{xs:List Value}{l:List (S.car T)}(hE:Els D σ T xs l){m:Nat}(hk:m<=l.length):Els D σ T (xs.take (m*D.size T)) (l.take m):=by
 refine⟨?_,fun j x hx=> ?_⟩
 .rw[List.length_take,hE.1,List.length_take];have:m*D.size T<=l.length*D.size T:=Nat.mul_le_mul_right _ hk;rw[Nat.min_eq_left this,Nat.min_eq_left hk]
 .rw[List.getElem?_take] at hx;split at hx;case isFalse=>cases hx
  rename_i hj;have:=hE.2 j x hx;have h3:(j+1)*D.size T<=m*D.size T:=Nat.mul_le_mul_right _ hj;rw[Nat.add_mul,Nat.one_mul] at h3;have e:((xs.take (m*D.size T)).drop (j*D.size T)).take (D.size T)=(xs.drop (j*D.size T)).take (D.size T):=by rw[List.drop_take,List.take_take,Nat.min_eq_left (by omega)]
  rw[e];exact this
theorem v99{T:S.C}{xs:List Value}{l:List (S.car T)}(hE:Els D σ T xs l)(m:Nat):Els D σ T (xs.drop (m*D.size T)) (l.drop m):=by refine⟨by rw[List.length_drop,hE.1,List.length_drop,Nat.sub_mul],fun j x hx=> ?_⟩;rw[List.getElem?_drop] at hx;have:=hE.2 (m+j) x hx;rw[List.drop_drop,<-Nat.add_mul];exact this
theorem y4o{T:S.C}{el:TypeId}{a:Option Addr}{cap c d:Nat}{xs:List Value}{l:List (S.car T)}(hok:(vec (.slice a l.length cap) el (D.size T) l.length xs).ok w)(hE:Els D σ T xs l)(hcd:c<=d)(hd:d<=l.length):
  Src D σ w T (.slice (if cap=c then a else a.map (·.add (c*D.size T))) (d - c) (cap - c)) ((l.take d).drop c):=by
 have hlen:((l.take d).drop c).length=d - c:=by rw[List.length_drop,List.length_take];omega
 rcases (q2k hok).2 with ⟨hv,h0⟩|⟨g,cap',hv,hc,_⟩
 .obtain⟨rfl,_,rfl⟩:a=none/\l.length=0/\cap=0:=by simpa using hv
  have hl:l=[]:=List.eq_nil_of_length_eq_zero h0;subst hl;exact⟨none,0 - c,by rw[hlen];congr 1;split<;>rfl,.inl ⟨rfl,by simp⟩⟩
 .obtain⟨rfl,rfl⟩:a=some ⟨g,0,none⟩/\cap=cap':=by simpa using hv
  have hrow:=j2x hok;by_cases hcc:cap=c
  .have:d=c:=by omega
   subst this;rw[if_pos hcc];have hnil:(l.take d).drop d=[]:=List.eq_nil_of_length_eq_zero (by rw[hlen];omega);rw[hnil];exact⟨_,_,by rw[Nat.sub_self];rfl,.inr ⟨_,[],rfl,fun j u hj=>by simp at hj,by simp,fun i x hx=>by simp at hx⟩⟩
  .rw[if_neg hcc];refine⟨some ((⟨g,0,none⟩:Addr).add (c*D.size T)),cap - c,by rw[hlen];rfl,.inr ⟨_,(xs.take (d*D.size T)).drop (c*D.size T),rfl,fun j u hj=> ?_,v99 (v1f hE hd) c⟩⟩;rw[q2i];rw[List.getElem?_drop,List.getElem?_take] at hj;split at hj
   .exact hrow _ u hj
   .cases hj
theorem y4p{el:TypeId}{T:S.C}{s s':SV S}{o:Nat}{l:List (S.car T)}{a b c d:Int}(h:cutQ D el T ob s s'=some (o,l,a,b,c,d)):s= .cut o (D.size T) a b/\s'= .cut o (D.size T) c d/\ob o=some (.vec el T l):=by
 unfold cutQ at h;split at h;case h_2=>cases h
 rename_i o1 s1 a1 b1 o2 s2 c2 d2;cases hq:Nat.beq o1 o2 && Nat.beq s1 (D.size T) && Nat.beq s2 (D.size T) with
 |false=>rw[hq] at h;cases h
 |true=>
  rw[hq] at h;simp only[cond_true] at h;obtain⟨hq,hq3⟩:=Q6 hq;obtain⟨hq1,hq2⟩:=Q6 hq;have e1:=e9 hq1;have e2:=e9 hq2;have e3:=e9 hq3;split at h;case h_2=>cases h
  rename_i e T' l' hob;cases hb:Nat.beq e el with
  |false=>rw[hb] at h;cases h
  |true=>
   rw[hb] at h;simp only[cond_true] at h;have e4:=e9 hb;split at h;case h_2=>cases h
   rename_i hT _;subst hT;cases h;exact⟨by rw[e2],by rw[<-e1,e3],by rw[hob,e4]⟩
theorem y0a{args:Array Operand}{ts:Array TypeId}(hP:D.OkP P)(hnx:ν nx=none)(k:Kn D ν σ n f w e ob lkc oh)(h:Hb P D e ob nx (.call ⟨.builtin .append,args,ts⟩) K):z2i P D ν σ w ob lkc nx (ev n f) (.call ⟨.builtin .append,args,ts⟩) K:=by
 have hD:=hP.ok;simp only[Hb] at h;split at h;case h_2=>exact h.elim
 rename_i x y t t' ha ht;have ha':args= #[x,y]:=by apply Array.ext';simpa using ha
 have ht':ts= #[t,t']:=by apply Array.ext';simpa using ht
 obtain⟨htt,h0⟩:=J1 h;clear h;have htt:=e9 htt;subst htt;have h:=h0;clear h0;split at h;case h_2=>exact h.elim
 rename_i el hu;split at h;case h_2=>exact h.elim
 rename_i T i hcode hi;obtain⟨hc,h⟩:=J1 h;obtain⟨hc,hbytes⟩:=Q6 hc;obtain⟨hc,hz⟩:=Q6 hc;obtain⟨hT,hsz⟩:=Q6 hc;have hbytes:=Nat.le_of_ble_eq_true hbytes;have hsz:=e9 hsz;obtain⟨z,hz⟩:=Option.isSome_iff_exists.1 hz;have hzl:z.cells.size=D.size T:=by rw[<-Array.length_toList,(hP.zero _ _ _ _ hcode hi hz σ).1,hD.len]
 split at h
 .rename_i o l a b c d hcut;obtain⟨⟨rfl,h0,h1,h2,h3⟩,hsm,hfin⟩:=h;obtain⟨hxe,hye,hob⟩:=y4p hcut;subst ha';refine⟨_,_,_,[(o,.vec el T l)],hfin,rfl,by simp,by simpa using hob,fun ins ho hS oo hoo=> ?_⟩
  match ins,ho with
  |[m],ho=>
   obtain⟨v,xs,hν,hm,hE,hl⟩:=ho.1;subst hm;have hok:=hS.get (i:=0) rfl;obtain⟨ad,cap,hv,hcap⟩:=j6g hok;subst hv;have kx:=k.e x;have ky:=k.e y;rw[hxe] at kx;rw[hye] at ky;generalize hvx:ev n f x=vx at kx;generalize hvy:ev n f y=vy at ky;cases kx with
   |cut _ _ _ _ a1 len1 cap1 hν1 _ _=>
   cases ky with
   |cut _ _ _ _ a2 len2 cap2 hν2 _ _=>
   rw[hν] at hν1 hν2;cases hν1;cases hν2;have hkb:b.toNat<=l.length:=by omega
   have hxv:ev n f x= .slice ad b.toNat cap:=by
    rw[hvx];simp only[Int.toNat_zero,Nat.zero_mul,Nat.sub_zero];congr 1;split
    .rfl
    .cases ad with
     |none=>rfl
     |some q=>simp[Addr.add]
   have htk:(vec (.slice ad b.toNat cap) el (D.size T) (l.take b.toNat).length (xs.take (b.toNat*D.size T))).ok w:=by rw[List.length_take,Nat.min_eq_left hkb];exact j7c hok hkb
   obtain⟨v',w',xs',hrun,hE',hok',hk,hf⟩:=j0t (P:=P) hD hu hi hz hsz hzl hbytes (v1f hE hkb) htk (y4o hok hE (show c.toNat<=d.toNat by omega) (by omega)) hsm hxv hvy ht' hoo;have hown:(Value.slice ad b.toNat cap).ownBlock=(Value.slice ad l.length cap).ownBlock:=by cases ad<;>rfl
   rw[hown] at hk hf;exact⟨w',σ,ν.add nx v',[vec v' el (D.size T) _ xs'],_,hrun,Nm.add_ext hnx,Nm.add_new,hS.step (i:=0) rfl hk hok' hf rfl hS.view.none_of_ge,⟨⟨v',xs',Nm.add_self,rfl,hE',by unfold Sml at hsm;omega⟩,trivial⟩,⟨v',rfl,.hnd nx v' Nm.add_self (q2l hok')⟩⟩
 split at h;case h_2=>exact h.elim
 rename_i a l b l' hown hsrc;obtain⟨hne,hsm,hfin⟩:=J1 h;clear h;subst ha';have kx:=k.e x;have ky:=k.e y;have h47:(l++l').length<=140737488355328:=by unfold Sml at hsm;omega
 have hcase:(b=[]/\(View σ w->Src D σ w T (ev n f y) l'))\/ ∃o',e y= .hnd o'/\b=[o']/\ob o'=some (.vec el T l'):=by
  rcases y4n hsrc with ⟨hye,rfl,rfl⟩|⟨hye,rfl⟩|⟨o',hye,rfl,hob'⟩|⟨o',hye,rfl,hob'⟩
  .exact .inl ⟨rfl,fun _=>⟨none,0,z2h (hye▸ky),.inl ⟨rfl,rfl⟩⟩⟩
  .exact .inl ⟨rfl,fun hV=>y2w hD hV (v5q (hye▸ky))⟩
  .exact .inr ⟨o',hye,rfl,hob'⟩
  .refine .inl ⟨rfl,fun hV=> ?_⟩;obtain⟨hR,_⟩:=k.o _ _ hob';obtain⟨v',hν',_,hr⟩:=hR;have hyv:ev n f y=v':=Uo (hye▸ky) hν';rw[hyv];exact y2w hD hV hr
 clear hsrc;rcases j25 hown with ⟨hxe,rfl,rfl⟩|⟨o,hxe,rfl,hob⟩
 .
  have hxv:ev n f x= .slice none 0 0:=z2h (hxe▸kx);have hnil: ∀w:World,(vec (.slice none 0 0) el (D.size T) ([]:List (S.car T)).length []).ok w:=fun w=>World.ownsRow_nil w 0 el (D.size T)
  have hE0:Els D σ T [] ([]:List (S.car T)):=⟨by simp,fun i x hx=>by simp at hx⟩;rcases hcase with ⟨rfl,hs⟩|⟨o',hye,rfl,hob'⟩
  .refine⟨_,_,_,[],hfin,rfl,List.nodup_nil,by simp,fun ins ho hS oo hoo=> ?_⟩;cases ins with
   |cons=>exact ho.elim
   |nil=>
    obtain⟨v',w',xs',hrun,hE',hok',hk,hf⟩:=j0t (P:=P) hD hu hi hz hsz hzl hbytes hE0 (hnil w) (hs hS.view) hsm hxv rfl ht' hoo;exact⟨w',σ,ν.add nx v',[vec v' el (D.size T) _ xs'],_,hrun,Nm.add_ext hnx,Nm.add_new,hS.add hk hok' (fun b hb=>(hf b hb).resolve_left (by intro h;cases h)),⟨⟨v',xs',Nm.add_self,rfl,hE',h47⟩,trivial⟩,⟨v',rfl,.hnd nx v' Nm.add_self (q2l hok')⟩⟩
  .refine⟨_,_,_,[(o',.vec el T l')],hfin,rfl,by simp,by simpa using hob',fun ins ho hS oo hoo=> ?_⟩
   match ins,ho with
   |[m],ho=>
    obtain⟨vy,ys,hνy,hm,hEy,hly⟩:=ho.1;subst hm;have hs:Src D σ w T (ev n f y) l':=by have hyv:ev n f y=vy:=Uo (hye▸ky) hνy;rw[hyv];exact v5z (hS.get (i:=0) rfl) hEy
    obtain⟨v',w',xs',hrun,hE',hok',hk,hf⟩:=j0t (P:=P) hD hu hi hz hsz hzl hbytes hE0 (hnil w) hs hsm hxv rfl ht' hoo
    exact⟨w',σ,ν.add nx v',[vec v' el (D.size T) _ xs',_],_,hrun,Nm.add_ext hnx,Nm.add_new,hS.add hk hok' (fun b hb=>(hf b hb).resolve_left (by intro h;cases h)),
     ⟨⟨v',xs',Nm.add_self,rfl,hE',h47⟩,⟨vy,ys,Nm.add_ext hnx _ _ hνy,rfl,hEy,hly⟩,trivial⟩,⟨v',rfl,.hnd nx v' Nm.add_self (q2l hok')⟩⟩
 .
  rcases hcase with ⟨rfl,hs⟩|⟨o',hye,rfl,hob'⟩
  .refine⟨_,_,_,[(o,.vec el T l)],hfin,rfl,by simp,by simpa using hob,fun ins ho hS oo hoo=> ?_⟩
   match ins,ho with
   |[m],ho=>
    obtain⟨vx,xs,hνx,hm,hEx,hlx⟩:=ho.1;subst hm;obtain⟨v',w',xs',hrun,hE',hok',hk,hf⟩:=j0t (P:=P) hD hu hi hz hsz hzl hbytes hEx (hS.get (i:=0) rfl) (hs hS.view) hsm (Uo (hxe▸kx) hνx) rfl ht' hoo;exact⟨w',σ,ν.add nx v',[vec v' el (D.size T) _ xs'],_,hrun,Nm.add_ext hnx,Nm.add_new,hS.step (i:=0) rfl hk hok' hf rfl hS.view.none_of_ge,⟨⟨v',xs',Nm.add_self,rfl,hE',h47⟩,trivial⟩,⟨v',rfl,.hnd nx v' Nm.add_self (q2l hok')⟩⟩
  .have hoo':o≠o':=by intro he;subst he;simp at hne
   refine⟨_,_,_,[(o,.vec el T l),(o',.vec el T l')],hfin,rfl,by simpa using hoo',by simpa using ⟨hob,hob'⟩,fun ins ho hS oo hoo=> ?_⟩
   match ins,ho with
   |[m,m'],ho=>
    obtain⟨vx,xs,hνx,hm,hEx,hlx⟩:=ho.1;obtain⟨vy,ys,hνy,hm',hEy,hly⟩:=ho.2.1;subst hm hm';have hs:Src D σ w T (ev n f y) l':=by have hyv:ev n f y=vy:=Uo (hye▸ky) hνy;rw[hyv];exact v5z (hS.get (i:=1) rfl) hEy
    obtain⟨v',w',xs',hrun,hE',hok',hk,hf⟩:=j0t (P:=P) hD hu hi hz hsz hzl hbytes hEx (hS.get (i:=0) rfl) hs hsm (Uo (hxe▸kx) hνx) rfl ht' hoo
    exact⟨w',σ,ν.add nx v',[vec v' el (D.size T) _ xs',_],_,hrun,Nm.add_ext hnx,Nm.add_new,hS.step (i:=0) rfl hk hok' hf rfl hS.view.none_of_ge,
     ⟨⟨v',xs',Nm.add_self,rfl,hE',h47⟩,⟨vy,ys,Nm.add_ext hnx _ _ hνy,rfl,hEy,hly⟩,trivial⟩,⟨v',rfl,.hnd nx v' Nm.add_self (q2l hok')⟩⟩
theorem y0b{t:TypeId}{x lo:Operand}{hi:Option Operand}(hP:D.OkP P)(k:Kn D ν σ n f w e ob lkc oh)(h:Hb P D e ob nx (.slice t x (some lo) hi none) K):z2i P D ν σ w ob lkc nx (ev n f) (.slice t x (some lo) hi none) K:=by
 have hD:=hP.ok;simp only[Hb] at h;split at h;case h_2=>exact h.elim
 rename_i el o hu hxe;split at h;case h_2=>exact h.elim
 rename_i ety T l hob;obtain⟨hc,h⟩:=J1 h;obtain⟨hT,hsz⟩:=Q6 hc;have hsz:=e9 hsz;split at h;case h_2=>exact h.elim
 rename_i a b hlo hhi;obtain⟨⟨h0,h1,h2⟩,h⟩:=h;have hlv:=j7m k hlo;have hhv:(hi=none/\b=((l.length:Nat):Int))\/ ∃r,hi=some r/\ev n f r= .int .i64 b:=by
  cases hi with
  |none=>exact .inl ⟨rfl,(Option.some.inj hhi).symm⟩
  |some r=>exact .inr ⟨r,rfl,j7m k hhi⟩
 refine⟨_,_,_,[(o,.vec ety T l)],h,rfl,by simp,by simpa using hob,fun ins ho hS oo hoo=> ?_⟩
 match ins,ho with
 |[m],ho=>
  obtain⟨v,xs,hν,hm,hE,hl⟩:=ho.1;subst hm;have hxv:=Uo (hxe▸k.e x) hν;obtain⟨σ1,hS1,hs1,hrep⟩:=w1e (ms:=[]) hD hS hE hl;have hR:=hrep.toRSl hD;obtain⟨a',cap,hv,hcap,_⟩:=id hR;rw[hv] at hR;have hb:(Instr.sliceBounds true l.length cap (some (ev n f lo)) (hi.map (ev n f)) none).run P w= .ok (a.toNat,b.toNat,cap) w:=by
   have e1:b<=(cap:Int):=by omega
   have e2:0<=b:=by omega
   have e3:max b 0=b:=by omega
   clear hR hv hrep hS1;rcases hhv with ⟨rfl,rfl⟩|⟨r,rfl,hr⟩<;>clear hhi hlo<;>simp_all [Instr.sliceBounds,Instr.sliceBound,asIntOf]
  have h3:=RSl.drop' (RSl.take hR b.toNat (by omega)) a.toNat (by simp only[List.length_take];omega)
  have hrun: ∃u,(execOp (ev n f) oo).run P w= .ok (.value u) w/\RSl (D.size T) (ElF D T) σ1 u ((l.take b.toNat).drop a.toNat):=
   ⟨_,by simp[execOp,hoo,hxv,hv,Instr.sliceAt,run_underlying hu,Instr.slice,hb,Un hT,hsz],h3⟩
  obtain⟨u,hrun,h4⟩:=hrun;exact⟨w,σ1,ν,[triv],.value u,hrun,Ext.refl _,fun m u h=> .inl h,hS1,⟨⟨v,hν,rfl,hrep⟩,trivial⟩,⟨u,rfl,.f (RepF.ofRSl hD h4)⟩⟩
theorem w1g{f:Nat->SV S}: ∀{l:List (SV S)} {i:Nat} {q:List (FV S)×List Nat},toFs (fun _=>none) l=some q->resL f i l=l
 |[],_,_,_=>rfl
 |s::l,i,q,h=>by
  simp only[toFs] at h;cases h1:toF (fun _=>none) s with
  |none=>rw[h1] at h;cases h
  |some a=>
   cases h2:toFs (fun _=>none) l with
   |none=>rw[h1,h2] at h;cases h
   |some b=>
    have:=w1g (f:=f) (i:=i+1) h2;cases s<;>first|(simp only[resL,this];done)|cases h1
theorem v1g(hD:D.Ok){T:S.C}(h1:D.size T=1): ∀{xs:List (FV S)} {cs:List Value} {ys:List (S.car T)},RowF D σ cs xs->bldL D T xs=some ys->Els D σ T cs ys
 |[],cs,ys,hr,hb=>by cases hb;have:cs=[]:=List.eq_nil_of_length_eq_zero hr.1;subst this;exact⟨by simp,fun i x hx=>by cases hx⟩
 |x::xs,cs,ys,hr,hb=>by
  cases cs with
  |nil=>have:=hr.1;cases this
  |cons c cs=>
   simp only[bldL] at hb;split at hb;case h_2=>cases hb
   rename_i y ys' hy hys;cases hb;have ih:=v1g hD h1 (cs:=cs) (ys:=ys') ⟨by have:=hr.1;simpa using this,fun j v s hj hs=>hr.2 (j+1) v s (by simpa using hj) (by simpa using hs)⟩ hys;refine⟨by have:=ih.1;rw[h1] at this⊢;simp only[List.length_cons];omega,fun i z hz=> ?_⟩;cases i with
   |zero=>
    cases hz;rw[h1]
    exact hD.bld T [x] y σ [c] hy ⟨rfl,fun j v s hj hs=>by
     cases j with
     |zero=>cases hj;cases hs;exact hr.2 0 _ _ rfl rfl
     |succ j=>cases hj⟩
   |succ i=>
    have:=ih.2 i z (by simpa using hz);rw[h1] at this⊢;simpa using this
theorem y0c{t:TypeId}{x:Operand}(hP:D.OkP P)(k:Kn D ν σ n f w e ob lkc oh)(h:Hb P D e ob nx (.slice t x none none none) K):z2i P D ν σ w ob lkc nx (ev n f) (.slice t x none none none) K:=by
 have hD:=hP.ok;simp only[Hb] at h;split at h;case h_2=>exact h.elim
 rename_i N el o hu hxe;split at h;case h_2=>exact h.elim
 rename_i ty l T hob hcode;obtain⟨hc,h⟩:=J1 h;obtain⟨hc,hN⟩:=Q6 hc;obtain⟨hc,hlN⟩:=Q6 hc;obtain⟨hc,hT⟩:=Q6 hc;obtain⟨hs1,hsz⟩:=Q6 hc;have hs1:=e9 hs1;have hsz:=e9 hsz;have hlN:=e9 hlN;have hN:=Nat.le_of_ble_eq_true hN;obtain⟨xs,hxs,h⟩:=Ql h;obtain⟨ys,hys,h⟩:=Ql h;have hpl:toFs (fun _=>none) l=some (xs,[]):=by
  simp only[y2t] at hxs;split at hxs
  .rename_i hq;cases hxs;exact hq
  .cases hxs
 refine⟨_,_,_,[(o,.cells ty l)],h,rfl,by simp,by simpa using hob,fun ins ho hS oo hoo=> ?_⟩
 match ins,ho with
 |[m],ho=>
  obtain⟨b,cs,hν,hm,hR⟩:=ho.1;subst hm;rw[w1g hpl] at hR;have hxv:ev n f x= .pointer (some ⟨b,0,none⟩):=by
   have hx:=k.e x;rw[hxe] at hx;generalize ev n f x=vx at hx;cases hx with
   |ref _ _ b' h'=>rw[hν] at h';cases h';rfl
  have hF:RowF D σ cs xs:=j0q (oh:=fun _=>triv) (lkc:=lkc) hD (fun o a h=>by cases h) hR hpl;have hrow:=q2j (hS.get (i:=0) rfl);obtain⟨σ1,hS1,hs,hfz⟩:=hS.freeze' (i:=0) rfl rfl;have hE:=(v1g hD hs1 hF hys).mono hs;have hlen:ys.length=N:=by have:=hE.1;rw[hs1] at this;have:=hR.1;omega
  have hrep:RSl (D.size T) (ElF D T) σ1 (.slice (some ⟨b,0,none⟩) ys.length ys.length) ys:=by
   refine⟨some ⟨b,0,none⟩,ys.length,rfl,Nat.le_refl _,by omega,fun i y hy=>⟨⟨b,0,none⟩,(cs.drop (i*D.size T)).take (D.size T),rfl,?_,?_,hE.2 i y hy⟩⟩
   .rw[(hE.2 i y hy).1,hD.len]
   .refine VRow.part ?_ rfl;intro j u hj;have hc:=hrow j u hj;rw[Jq] at hc⊢;unfold Hv.cell;rw[hfz b rfl];exact hc
  refine⟨w,σ1,ν,[],.value (.slice (some ⟨b,0,none⟩) N N),?_,Ext.refl _,fun m u h=> .inl h,hS1,trivial,⟨_,rfl,.f (RepF.ofRSl hD (hlen▸hrep))⟩⟩;simp[execOp,hoo,hxv,Instr.sliceAt,run_underlying hu,Instr.sureAddr,Instr.sliceBounds,Un hT,hsz];exact fun _=>by rw[Jq]
theorem y4q{t:TypeId}{x r:Operand}(hP:D.OkP P)(hnx:ν nx=none)(k:Kn D ν σ n f w e ob lkc oh)(h:Hb P D e ob nx (.slice t x none (some r) none) K):z2i P D ν σ w ob lkc nx (ev n f) (.slice t x none (some r) none) K:=by
 have hD:=hP.ok;simp only[Hb] at h;split at h;case h_2=>exact h.elim
 rename_i el o i hu hxe hri;split at h;case h_2=>exact h.elim
 rename_i ety T l hob;obtain⟨hc,⟨h0,h1⟩,h⟩:=J1 h;obtain⟨hc,_⟩:=Q6 hc;obtain⟨hT,hsz⟩:=Q6 hc;have hsz:=e9 hsz;have hrv:=j7m k hri;refine⟨_,_,_,[(o,.vec ety T l)],h,rfl,by simp,by simpa using hob,fun ins ho hS oo hoo=> ?_⟩
 match ins,ho with
 |[m],ho=>
  obtain⟨v,xs,hν,hm,hE,hl⟩:=ho.1;subst hm;have hxv:=Uo (hxe▸k.e x) hν;have hok:=hS.get (i:=0) rfl;obtain⟨a,cap,hv,hcap⟩:=j6g hok;subst hv;have hk:i.toNat<=l.length:=by omega
  have hpos:=hD.pos T;have hrun:(execOp (ev n f) oo).run P w= .ok (.value (.slice a i.toNat cap)) w:=by
   have e1:i=((i.toNat:Nat):Int):=by omega
   have hb:(Instr.sliceBounds true l.length cap none (some (ev n f r)) none).run P w= .ok (0,i.toNat,cap) w:=by
    have e2:i<=(cap:Int):=by omega
    have e3:max i 0=i:=by omega
    simp[Instr.sliceBounds,Instr.sliceBound,asIntOf,hrv,h0,e2]
   simp[execOp,hoo,hxv,Instr.sliceAt,run_underlying hu,Instr.slice,hb,Un hT];cases a with
   |none=>simp
   |some ad=>simp[Addr.add]
  have htk:(vec (.slice a i.toNat cap) ety (D.size T) i.toNat (xs.take (i.toNat*D.size T))).ok w:=j7c hok hk;refine⟨w,σ,ν.add nx (.slice a i.toNat cap),[vec (.slice a i.toNat cap) ety (D.size T) (l.take i.toNat).length (xs.take (i.toNat*D.size T))],_,hrun,Nm.add_ext hnx,Nm.add_new,?_,⟨⟨_,_,Nm.add_self,rfl,?_,?_⟩,trivial⟩,⟨_,rfl,.hnd nx _ Nm.add_self rfl⟩⟩
  .have hlen:(l.take i.toNat).length=i.toNat:=by rw[List.length_take];omega
   rw[hlen];exact w2j hS (Keeps.refl _ _) htk (by cases a<;>rfl)
  .refine⟨?_,fun j x hx=> ?_⟩
   .rw[List.length_take,hE.1,List.length_take];have:i.toNat*D.size T<=l.length*D.size T:=Nat.mul_le_mul_right _ hk;rw[Nat.min_eq_left this,Nat.min_eq_left hk]
   .rw[List.getElem?_take] at hx;split at hx;case isFalse=>cases hx
    rename_i hj;have:=hE.2 j x hx;have h3:(j+1)*D.size T<=i.toNat*D.size T:=Nat.mul_le_mul_right _ hj;rw[Nat.add_mul,Nat.one_mul] at h3;have e:((xs.take (i.toNat*D.size T)).drop (j*D.size T)).take (D.size T)=(xs.drop (j*D.size T)).take (D.size T):=by rw[List.drop_take,List.take_take,Nat.min_eq_left (by omega)]
    rw[e];exact this
  .rw[List.length_take];omega
theorem y4r{t:TypeId}{x:Operand}(hP:D.OkP P)(hnx:ν nx=none)(k:Kn D ν σ n f w e ob lkc oh)(h:Hb P D e ob nx (.range t x) K):z2i P D ν σ w ob lkc nx (ev n f) (.range t x) K:=by
 simp only[Hb] at h;split at h;case h_3=>exact h.elim
 case h_2=>
  rename_i s hmc hx;split at h;case h_2=>exact h.elim
  rename_i hu;have hxv:ev n f x= .string s:=by
   have hx':=k.e x;rw[hx] at hx';generalize ev n f x=u at hx';cases hx' with
   |f h'=>cases h';rfl
  refine⟨_,_,_,[],h,rfl,List.nodup_nil,by simp,fun ins ho hS oo hoo=> ?_⟩;cases ins with
  |cons=>exact ho.elim
  |nil=>
   exact⟨w.alloc (.stringIter s 0),σ,ν.add nx (.pointer (some ⟨w.heap.size,0,none⟩)),[sitr w.heap.size s 0],.value (.pointer (some ⟨w.heap.size,0,none⟩)),by simp[execOp,hoo,hxv,Instr.range,Sem.run_bind,run_underlying hu],Nm.add_ext hnx,Nm.add_new,
    hS.add (Wb w _) (heap_alloc_new _ _) (by rintro k ⟨⟩;exact Nat.le_refl _),⟨⟨_,Nm.add_self,rfl⟩,trivial⟩,⟨_,rfl,.ref nx 0 _ Nm.add_self⟩⟩
 rename_i Kc V o hmc hx;obtain⟨kt,et,hu,hK,hkey,_⟩:=hP.map _ _ _ hmc;split at h;case h_2=>exact h.elim
 rename_i K' V' F hob;obtain⟨e1,e2,h⟩:=q7z h;subst e1 e2;obtain⟨⟨b,mm,hν,hh,hF⟩,hok⟩:=k.o o _ hob;rw[hh] at hok;obtain⟨es,clock,k1,k2,k3,k4⟩:=hok;obtain⟨ks,hn,hks⟩:=y7p k2 k4.1 hK.inj;have hks':Keys F ks:=⟨hn,fun q=>by rw[hks q,k3 q,ORel.isSome (hF q)]⟩;have hxv:ev n f x= .map (some b):=Uo (hx▸k.e x) hν;refine⟨_,_,_,[(o,.map K' V' F)],h ks hks',rfl,by simp,by simpa using hob,fun ins ho hS oo hoo=> ?_⟩
 match ins,ho with
 |[mo],ho=>
  obtain⟨b',mm',hν',hmo,hF'⟩:=ho.1;rw[hν] at hν';cases hν';subst hmo;obtain⟨es',clock',j1,j2,j3,j4⟩:=hS.get (i:=0) rfl;obtain⟨σ1,hS1,hs1,hb1⟩:=hS.freeze' (i:=0) rfl rfl;have hb2:σ1 b=some (.map es' clock'):=(hb1 b rfl).trans j1
  refine⟨w.alloc (.mapIter (some b) clock' #[] clock'),σ1,ν.add nx (.pointer (some ⟨w.heap.size,0,none⟩)),_,.value (.pointer (some ⟨w.heap.size,0,none⟩)),?_,Nm.add_ext hnx,Nm.add_new,
   hS1.add (o:=itrK (kenc D K') w.heap.size b es' clock' [] none) (Wb w _) ⟨#[],heap_alloc_new _ _,by simp,by simp⟩ (by rintro k ⟨⟩;exact Nat.le_refl _),
   ⟨⟨w.heap.size,b,es',clock',none,Nm.add_self,rfl,hb2,j2,j4,fun q=> ?_,hkey,hK.inj,by simp⟩,trivial⟩,⟨_,rfl,.ref nx 0 _ Nm.add_self⟩⟩
  .simp[execOp,hoo,hxv,Instr.range,Sem.run_bind,run_underlying hu,MapKept.run_getObj_map j1]
  .rw[j3 q];exact (hF' q).imp fun v y h=>h.mono hs1
theorem y7v{x:Operand}(k:Kn D ν σ n f w e ob lkc oh)(h:Hb P D e ob nx (.next x false) K)(hV:View σ w):z2i P D ν σ w ob lkc nx (ev n f) (.next x false) K:=by
 simp only[Hb] at h;split at h;case h_2=>exact h.elim
 rename_i o hx;split at h;case h_2=>exact h.elim
 rename_i Kc V F done cur hob;obtain⟨⟨r,b,es,clock,cv,hν,hh,hb,hK,hM,hF,hkey,hinj,_⟩,hok⟩:=k.o o _ hob;rw[hh] at hok;have hxv:ev n f x= .pointer (some ⟨r,0,none⟩):=by
  have hx':=k.e x;rw[hx] at hx';generalize ev n f x=u at hx';cases hx' with
  |ref _ _ b' h'=>rw[hν] at h';cases h';rfl
 have same: ∀m,ORep D ν σ lkc o (.iter Kc V F done cur) m->m.ok w-> ∃cv',m=itrK (kenc D Kc) r b es clock done cv':=by rintro m ⟨r',b',es',clock',cv',hν',hm,hb',_⟩ hmo;rw[hν] at hν';cases hν';subst hm;obtain⟨s1,a1,_⟩:=hok;obtain⟨s2,a2,_⟩:=hmo;rw[a1] at a2;cases a2;rw[hb] at hb';cases hb';exact⟨cv',rfl⟩
 rcases v5j (P:=P) (ty:=0) hok (hV _ _ hb) hK hM with ⟨h1,h2⟩|⟨ky,v,w1,h1,h2,h3,h4,h5⟩
 .have hall:y7q F done:=fun q hq=>by rw[<-ORel.isSome (hF q)] at hq;obtain⟨v,hv⟩:=Option.isSome_iff_exists.1 hq;obtain⟨k',hk',he⟩:=h1 q v hv;rw[hinj _ _ he];exact hk'
  refine⟨_,_,_,[(o,.iter Kc V F done cur)],h.1 hall,rfl,by simp,by simpa using hob,fun ins ho hS oo hoo=> ?_⟩
  match ins,ho with
  |[mo],ho=>
   obtain⟨cv',rfl⟩:=same mo ho.1 (hS.get (i:=0) rfl);refine⟨w,σ,ν,_,.value (.tuple #[.bool false]),?_,Ext.refl ν,fun m u hu=> .inl hu,hS,⟨⟨r,b,es,clock,cv',hν,rfl,hb,hK,hM,hF,hkey,hinj,by simp⟩,trivial⟩,⟨_,rfl,.tup [.bool false] _ rfl fun j u s hj hs=> ?_⟩⟩
   .have h2':(Instr.next (.pointer (some ⟨r,0,none⟩)) false oo.type).run P w= .ok (.tuple #[.bool false]) w:=h2;simp only[execOp,hoo,hxv,Sem.run_bind,h2',Result.andThen_ok];rfl
   .match j with
    |0=>cases hj;cases hs;exact .lit false
    |j+1=>cases hj
 .have hFk:=hF ky;rw[h1] at hFk;cases hq:F ky with
  |none=>rw[hq] at hFk;exact hFk.elim
  |some y=>
   rw[hq] at hFk;refine⟨_,_,_,[(o,.iter Kc V F done cur)],h.2 ky y hq h2,rfl,by simp,by simpa using hob,fun ins ho hS oo hoo=> ?_⟩
   match ins,ho with
   |[mo],ho=>
    obtain⟨cv',rfl⟩:=same mo ho.1 (hS.get (i:=0) rfl);refine⟨w1,σ,ν,_,.value (.tuple #[.bool true,kenc D Kc ky,v]),?_,Ext.refl ν,fun m u hu=> .inl hu,w2j hS h4 h5 rfl,⟨⟨r,b,es,clock,some (ky,v),hν,rfl,hb,hK,hM,hF,hkey,hinj,fun k' y' hk'=> ?_⟩,trivial⟩,⟨_,rfl,.tup [.bool true,kenc D Kc ky,v] _ rfl fun j u s hj hs=> ?_⟩⟩
    .have h3':(Instr.next (.pointer (some ⟨r,0,none⟩)) false oo.type).run P w= .ok (.tuple #[.bool true,kenc D Kc ky,v]) w1:=h3;simp only[execOp,hoo,hxv,Sem.run_bind,h3',Result.andThen_ok];rfl
    .cases hk';exact⟨v,rfl,hFk⟩
    .obtain⟨cs,hcs,hv⟩:=hFk
     match j with
     |0=>cases hj;cases hs;exact .lit true
     |1=>cases hj;cases hs;exact w2i (v5w (hkey ky))
     |2=>cases hj;cases hs;rw[hv];exact w2i hcs
     |j+3=>cases hj
theorem w5s{w:World}{r:Nat}{s:BA}{pos:Nat}:Keeps [r] w (w.iterAt r s pos):=
 ⟨rfl,rfl,rfl,by simp[World.iterAt],fun j hj hm=>by
  show (w.heap.setIfInBounds r _)[j]? =_
  rw[Array.getElem?_setIfInBounds,if_neg (by intro e;exact hm (by simp[e]))]⟩
theorem y4s{x:Operand}(k:Kn D ν σ n f w e ob lkc oh)(h:Hb P D e ob nx (.next x true) K):z2i P D ν σ w ob lkc nx (ev n f) (.next x true) K:=by
 simp only[Hb] at h;split at h;case h_2=>exact h.elim
 rename_i o hx;split at h;case h_2=>exact h.elim
 rename_i s pos hob;obtain⟨⟨r,hν,hh⟩,hok⟩:=k.o o _ hob;rw[hh] at hok;have hok:w.heap[r]? =some (.stringIter s pos):=hok;have hxv:ev n f x= .pointer (some ⟨r,0,none⟩):=by
  have hx':=k.e x;rw[hx] at hx';generalize ev n f x=u at hx';cases hx' with
  |ref _ _ b' h'=>rw[hν] at h';cases h';rfl
 have same: ∀m,ORep D ν σ lkc o (.siter s pos) m->m=sitr r s pos:=by rintro m ⟨r',hν',hm⟩;rw[hν] at hν';cases hν';exact hm
 rcases Classical.em (pos<s.size) with hlt|hlt
 .refine⟨_,_,_,[(o,.siter s pos)],h.1 hlt,rfl,by simp,by simpa using hob,fun ins ho hS oo hoo=> ?_⟩
  match ins,ho with
  |[mo],ho=>
   have:=same mo ho.1;subst this;have hlt':r<w.heap.size:=(Array.getElem?_eq_some_iff.1 hok).1
   refine⟨w.iterAt r s (pos+(Utf8.decode s pos).2),σ,ν,[sitr r s (pos+(Utf8.decode s pos).2)],.value (.tuple #[.bool true,.int .i64 pos,.int .i32 (Utf8.decode s pos).1]),?_,Ext.refl ν,fun m u hu=> .inl hu,
    w2j hS w5s ?_ rfl,⟨⟨r,hν,rfl⟩,trivial⟩,⟨_,rfl,.tup [.bool true,.int .i64 pos,.int .i32 (Utf8.decode s pos).1] _ rfl fun j u s hj hs=> ?_⟩⟩
   .have h3':(Instr.next (.pointer (some ⟨r,0,none⟩)) true oo.type).run P w=_:=Go.Lib.run_next_any_at w r s pos oo.type hok hlt;simp only[execOp,hoo,hxv,Sem.run_bind,h3',Result.andThen_ok];rfl
   .show (w.heap.setIfInBounds r _)[r]? =_;rw[Array.getElem?_setIfInBounds,if_pos rfl,if_pos hlt']
   .match j with
    |0=>cases hj;cases hs;exact .lit true
    |1=>cases hj;cases hs;exact .f (.int _ _)
    |2=>cases hj;cases hs;exact .f (.int _ _)
    |j+3=>cases hj
 .refine⟨_,_,_,[(o,.siter s pos)],h.2 hlt,rfl,by simp,by simpa using hob,fun ins ho hS oo hoo=> ?_⟩
  match ins,ho with
  |[mo],ho=>
   have:=same mo ho.1;subst this;refine⟨w,σ,ν,[sitr r s pos],.value (.tuple #[.bool false]),?_,Ext.refl ν,fun m u hu=> .inl hu,hS,⟨⟨r,hν,rfl⟩,trivial⟩,⟨_,rfl,.tup [.bool false] _ rfl fun j u s hj hs=> ?_⟩⟩
   .have h3':(Instr.next (.pointer (some ⟨r,0,none⟩)) true oo.type).run P w=_:=Go.Lib.run_next_end_at w r s pos oo.type hok hlt;simp only[execOp,hoo,hxv,Sem.run_bind,h3',Result.andThen_ok];rfl
   .match j with
    |0=>cases hj;cases hs;exact .lit false
    |j+1=>cases hj
theorem v50{s d:TypeId}{x:Operand}(hP:D.OkP P)(k:Kn D ν σ n f w e ob lkc oh)(hV:View σ w)(h:Hb P D e ob nx (.convert s d x) K):z2i P D ν σ w ob lkc nx (ev n f) (.convert s d x) K:=by
 have hD:=hP.ok;simp only[Hb] at h;split at h
 .rename_i a hx h1 h2;refine⟨_,_,_,[],h,rfl,List.nodup_nil,by simp,fun ins ho hS oo hoo=> ?_⟩;cases ins with
  |cons=>exact ho.elim
  |nil=>exact⟨w,σ,ν,[],_,by simp[execOp,hoo,Hf (hx▸k.e x),convert,run_underlying h1,run_underlying h2],Ext.refl _,fun m u h=> .inl h,hS,trivial,⟨_,rfl,.f (.str a)⟩⟩
 .rename_i a el hx h1 h2;split at h;case h_2=>exact h.elim
  rename_i T g h3 hb;obtain⟨hsm,h⟩:=h;obtain⟨hs1,hg⟩:=hP.bts _ _ hb;obtain⟨hgl,hgs⟩:=hg a;refine⟨_,_,_,[],h,rfl,List.nodup_nil,by simp,fun ins ho hS oo hoo=> ?_⟩;cases ins with
  |cons=>exact ho.elim
  |nil=>
   let w':=Go.Lib.bytesWorld w el a;let σ':Hv:=fun b=>if b=w.heap.size then w'.heap[b]? else σ b
   have hold: ∀j,j<w.heap.size->w'.heap[j]? =w.heap[j]? :=fun j hj=>Go.Lib.bytesWorld_at_old w el a j hj
   have hsub:Sub σ σ':=fun b o hb=>by show (if b=w.heap.size then _ else _)=_;rw[if_neg (fun he=>by rw[hV.none_of_ge b (by omega)] at hb;cases hb)];exact hb
   have hview:View σ' w':=fun b o hb=>by
    change (if b=w.heap.size then w'.heap[b]? else σ b)=some o at hb;split at hb
    .exact hb
    .rw[hold b (lt_of_block (hV b o hb))];exact hV b o hb
   have hsz:w'.heap.size=w.heap.size+1:=Go.Lib.bytesWorld_size w el a;have hgr:Grow [] σ w σ' w':=⟨⟨rfl,rfl,rfl,by omega,fun j hj _=>hold j hj⟩,hview,hsub,fun b hb _=>if_neg (by omega)⟩;have hrep:RepF D σ' (.slice (some ⟨w.heap.size,0,none⟩) (g a).length (grownCap w a.size 0 el)) (.sl T (g a)):=by
    refine .sl T (g a) _ _ (fun i _=> .int .u8 (a.data.toList.getD i 0).toNat) (by rw[hgl];exact grownCap_ge _ _ _ _) (by unfold Sml at hsm;omega) (fun i x hx=>⟨_,rfl,fun j hj=> ?_⟩) (fun i x j s hx hj=> ?_)
    .have hi:i<a.size:=by rw[<-hgl];exact Qj hx
     rw[hs1] at hj⊢;have hj0:j=0:=by omega
     subst hj0;rw[Jq,Nat.mul_one,Nat.add_zero,Nat.zero_add];have hc:=Go.Lib.bytesWorld_cell w el a i hi;have hb:σ' w.heap.size=w'.heap[w.heap.size]? :=if_pos rfl;unfold Hv.cell;simp only;rw[hb];exact hc
    .rw[hgs i x hx] at hj
     match j with
     |0=>cases hj;exact .int _ _
     |j+1=>cases hj
   refine⟨w',σ',ν,[],.value (.slice (some ⟨w.heap.size,0,none⟩) a.size (grownCap w a.size 0 el)),?_,Ext.refl _,fun m u h=> .inl h,hS.grow hgr,trivial,⟨_,rfl,.f (hgl▸hrep)⟩⟩;have hr:=Go.Lib.run_convert_string_bytes (P:=P) w s d el a h1 h2 h3;simp only[execOp,hoo,Hf (hx▸k.e x),Sem.run_bind,hr,Result.andThen_ok];rfl
 .exact h.elim
theorem y7w{o:Op}(hP:D.OkP P)(hnx:ν nx=none)(hV:View σ w)(k:Kn D ν σ n f w e ob lkc oh)(h:Hb P D e ob nx o K):z2i P D ν σ w ob lkc nx (ev n f) o K:=by
 unfold Hb at h;split at h
 .exact y4j (e:=e) (f:=f) hP hnx h
 .exact u0c hnx k h
 .exact y4l hP k h
 .exact v5x (e:=e) (f:=f) hnx h
 .exact v50 hP k hV h
 .exact j7l hP k h
 .exact v95 hP k h
 .exact v96 hP k h
 .exact w5q hP hnx k h
 .exact w8q hP hnx k h
 .exact y0a hP hnx k h
 .exact y4q hP hnx k h
 .exact y0c hP k h
 .exact y0b hP k h
 .exact y4r hP hnx k h
 .exact y7v k h hV
 .exact y4s k h
 .exact h.elim
end Go.Fx
end
noncomputable section
namespace Go.Fx
open Go Go.RowKit Go.Fl Go.Fl.Lk
variable {S:Sig}
inductive Tr(S:Sig):Type where
 |f (x:FV S)
 |same
 |vec (e:TypeId) (T:S.C) (l:List (S.car T))
 |kvec (e:TypeId) (T:S.C) (l:List (S.car T))
 |arr (T:S.C) (N:Nat) (l:List (S.car T))
 |map (K V:S.C) (F:S.car K->Option (S.car V))
 |ptr (ty:TypeId) (l:List (Tr S))
 |agg (l:List (Tr S))
 |el (T:S.C) (x:S.car T)
inductive PK(S:Sig):Type where
 |v
 |c
 |sl (T:S.C)
 |el (T:S.C)
 |own (e:TypeId) (T:S.C)
 |kow (e:TypeId) (T:S.C)
 |map (K V:S.C)
 |ptr (ty:TypeId) (l:List (PK S))
 |agg (l:List (PK S))
structure Con(S:Sig) where
 pk:List (PK S)
 m:List (Tr S)->(List (Tr S)->List (Tr S)->Prop)->Prop
inductive Kd(S:Sig):Type where
 |int (k:IntKind)
 |bool
 |str
 |sl (T:S.C)
 |own (e:TypeId) (T:S.C)
 |el (T:S.C)
 |map (K V:S.C)
 |arr (ty:TypeId) (T:S.C) (N:Nat)
 |iter (K V:S.C)
 |siter
abbrev Kd.ty:Kd S->Type
 | .int _=>Int
 | .bool=>Bool
 | .str=>BA
 | .sl T=>List (S.car T)
 | .own _ T=>List (S.car T)
 | .el T=>S.car T
 | .map K V=>S.car K->Option (S.car V)
 | .arr _ T _=>List (S.car T)
 | .iter K V=>(S.car K->Option (S.car V))×List (S.car K)
 | .siter=>BA×Nat
inductive Pl where
 |slot (j:Nat)
 |cell (o i:Nat)
 |obj (o:Nat)
abbrev Item(S:Sig):=Pl×Kd S
abbrev HL:List (Item S)->Type
 |[]=>Unit
 |i::l=>i.2.ty×HL l
structure Spec(S:Sig) where
 lock:List Nat
 robj:List Nat
 cobj:List (Nat×TypeId×Nat)
 items:List (Item S)
structure Ev(S:Sig) where
 P:Program
 D:Shp S
 con:Nat->Option (Con S)
 inl:Nat->Bool
 plan:Nat->Option (Spec S)
 base:Nat:=0
 alt:Nat->Option (Con S):=fun _=>none
def Ev.at(E:Ev S)(b:Nat):Ev S:={E with base:=b}
def q6s(ro:Ro S)(st:AS S)(t:Nat):SV S:=bif hasN ro.lock t then ro.slots t else st.slots t
def obS(ro:Ro S)(st:AS S)(o:Nat):Option (AO S):=
 match Zr st.objs o with
 |some a=>some a
 |none=>Zr ro.objs o
def evS(n:Nat)(ro:Ro S)(st:AS S):Operand->SV S
 | .tmp t=>bif Nat.blt t n then q6s ro st t else .und
 | .const v=>w8i v
 | .global g=>ro.glob g
 | .func k=> .fn k [] []
def v52(s:SV S)(k:SV S->Prop):Prop:=
 match s with
 | .f x=>k (.f x)
 | .lit b=>k (.lit b)
 | .pb p d n=>k (.pb p d n)
 | .agg l=>k (.agg l)
 | .tup l=>k (.tup l)
 | .hnd o=>k (.hnd o)
 | .ref o i=>k (.ref o i)
 |s=>k s
theorem w5t{s:SV S}{k:SV S->Prop}:v52 s k=k s:=by cases s<;>rfl
def w2l:List (SV S)->(List (SV S)->Prop)->Prop
 |[],k=>k []
 |s::l,k=>v52 s fun s=>w2l l fun l=>k (s::l)
theorem w1h: ∀{l:List (SV S)} {k:List (SV S)->Prop},w2l l k=k l
 |[],_=>rfl
 |s::l,k=>by unfold w2l;rw[w5t,w1h]
def v54(a:AO S)(k:AO S->Prop):Prop:=
 match a with
 | .cells ty l=>w2l l fun l=>k (.cells ty l)
 | .vec e T l=>k (.vec e T l)
 | .frz T l=>k (.frz T l)
 | .map K V F=>k (.map K V F)
 |a=>k a
theorem v55{a:AO S}{k:AO S->Prop}:v54 a k=k a:=by cases a<;>simp only[v54,w1h]
def j7n:List (Nat×AO S)->(List (Nat×AO S)->Prop)->Prop
 |[],k=>k []
 |(n,a)::l,k=>v54 a fun a=>j7n l fun l=>k ((n,a)::l)
theorem z41: ∀{l:List (Nat×AO S)} {k:List (Nat×AO S)->Prop},j7n l k=k l
 |[],_=>rfl
 |(_,_)::l,_=>by unfold j7n;rw[v55,z41]
def putS(ro:Ro S)(st:AS S)(d:Option Nat)(s:SV S)(k:AS S->Prop):Prop:=
 match d with
 |some d=>bif hasN ro.lock d then False else v52 s fun s=>k {st with slots:=updS st.slots d s}
 |none=>k st
def inRw(st:AS S):List Nat->Bool
 |[]=>true
 |o::l=>(Zr st.objs o).isSome && inRw st l
def toC:SV S->Option (FV S)
 | .f x=>some x
 | .lit b=>some (.bool b)
 | .pb p d false=>some (.bool (@decide p d))
 | .pb p d true=>some (.bool (!@decide p d))
 |_=>none
def y0d(ob:Nat->Option (AO S)):SV S->Option (Tr S×List Nat×List Nat)
 | .agg l=>match toFs ob l with
  |some (xs,b)=>some (.agg (xs.map Tr.f),[],b)
  |none=>none
 | .arr T N l=>some (.arr T N l,[],[])
 |s=>match toF ob s with
  |some (x,b)=>some (.f x,[],b)
  |none=>none
def y0e(ob:Nat->Option (AO S))(T:S.C)(s:SV S):Option (Tr S×List Nat×List Nat):=
 match s with
 | .f .nils=>some (.f (.sl T []),[],[])
 |s=>match toF ob s with
  |some (.sl T' l,b)=>(match S.dec T' T with
   |isTrue h=>some (.f (.sl T (h▸l)),[],b)
   |isFalse _=>none)
  |_=>none
def y4t(D:Shp S)(ob:Nat->Option (AO S))(T:S.C)(s:SV S):Option (Tr S×List Nat×List Nat):=
 match s with
 | .agg l=>(match toFs ob l with
  |some (xs,b)=>(match D.bld T xs with
   |some x=>some (.el T x,[],b)
   |none=>none)
  |none=>none)
 |_=>none
mutual
def gath(D:Shp S)(ob:Nat->Option (AO S))(lkc:Nat->Nat->SV S):PK S->SV S->Option (Tr S×List Nat×List Nat)
 | .v,s=>y0d ob s
 | .sl T,s=>y0e ob T s
 | .el T,s=>y4t D ob T s
 | .c,s=>(toC s).map fun x=>(.f x,[],[])
 | .own e T,s=>match ownQ e T ob s with
  |some (a,l)=>some (.vec e T l,a,[])
  |none=>none
 | .kow e T,s=>match ownQ e T ob s with
  |some ([o],l)=>some (.vec e T l,[o],[])
  |_=>none
 | .map K V,s=>match s with
  | .hnd o=>match ob o with
   |some (.map K' V' F)=>match S.dec K' K,S.dec V' V with
    |isTrue h,isTrue h'=>some (.map K V (h▸h'▸F),[o],[])
    |_,_=>none
   |_=>none
  |_=>none
 | .ptr ty pk,s=>match s with
  | .ref o 0=>match ob o with
   |some (.cells ty' l)=>bif Nat.beq ty ty' then (match j0u D ob lkc pk (resL (lkc o) 0 l) with
    |some (ts,a,b)=>some (.ptr ty ts,o::a,b)
    |none=>none) else none
   |_=>none
  |_=>none
 | .agg pk,s=>match s with
  | .agg l=>match j0u D ob lkc pk l with
   |some (ts,a,b)=>some (.agg ts,a,b)
   |none=>none
  |_=>none
def j0u(D:Shp S)(ob:Nat->Option (AO S))(lkc:Nat->Nat->SV S):List (PK S)->List (SV S)->Option (List (Tr S)×List Nat×List Nat)
 |[],[]=>some ([],[],[])
 |p::pk,s::l=>match gath D ob lkc p s,j0u D ob lkc pk l with
  |some (t,a,b),some (ts,a',b')=>some (t::ts,a++a',b++b')
  |_,_=>none
 |_,_=>none
end
mutual
def back(ob os:Nat->Option (AO S))(lkc:Nat->Nat->SV S):PK S->SV S->SV S->SV S->Option (Tr S×List Nat×List Nat)
 | .v,_,_,s=>y0d ob s
 | .sl T,_,_,s=>y0e ob T s
 | .el _,_,_,_=>none
 | .c,i,o,_=>match i,o with
  | .f _,.lk=>some (.same,[],[])
  |_,_=>none
 | .own e T,_,_,s=>match ownQ e T ob s with
  |some (a,l)=>some (.vec e T l,a,[])
  |none=>none
 | .kow e T,i,_,s=>match i,s with
  | .hnd o',.hnd o=>bif Nat.beq o' o then (match ownQ e T ob (.hnd o) with
   |some ([o2],l)=>some (.kvec e T l,[o2],[])
   |_=>none) else none
  |_,_=>none
 | .map K V,i,_,s=>match i,s with
  | .hnd o',.hnd o=>bif Nat.beq o' o then (match ob o with
   |some (.map K' V' F)=>match S.dec K' K,S.dec V' V with
    |isTrue h,isTrue h'=>some (.map K V (h▸h'▸F),[o],[])
    |_,_=>none
   |_=>none) else none
  |_,_=>none
 | .ptr ty pk,i,_,s=>match i,s with
  | .ref o' 0,.ref o 0=>bif Nat.beq o' o then (match os o,ob o with
   |some (.cells _ l0),some (.cells ty' l)=>bif Nat.beq ty ty' then (match v2v ob os lkc pk l0 l (resL (lkc o) 0 l) with
    |some (ts,a,b)=>some (.ptr ty ts,o::a,b)
    |none=>none) else none
   |_,_=>none) else none
  |_,_=>none
 | .agg _,_,_,_=>none
def v2v(ob os:Nat->Option (AO S))(lkc:Nat->Nat->SV S):List (PK S)->List (SV S)->List (SV S)->List (SV S)->Option (List (Tr S)×List Nat×List Nat)
 |[],[],[],[]=>some ([],[],[])
 |p::pk,i::is,o::l,s::l'=>match back ob os lkc p i o s,v2v ob os lkc pk is l l' with
  |some (t,a,b),some (ts,a',b')=>some (t::ts,a++a',b++b')
  |_,_=>none
 |_,_,_,_=>none
end
def j5j(ob os:Nat->Option (AO S))(lkc:Nat->Nat->SV S):List (PK S)->List (SV S)->Option (List (Tr S)×List Nat×List Nat)
 |[],[]=>some ([],[],[])
 | .map K V::pk,s::l=>match back ob os lkc (.map K V) s .dead s,j5j ob os lkc pk l with
  |some (t,a,b),some (ts,a',b')=>some (t::ts,a++a',b++b')
  |_,_=>none
 | .ptr ty k::pk,s::l=>match back ob os lkc (.ptr ty k) s .dead s,j5j ob os lkc pk l with
  |some (t,a,b),some (ts,a',b')=>some (t::ts,a++a',b++b')
  |_,_=>none
 |_::pk,_::l=>match j5j ob os lkc pk l with
  |some (ts,a,b)=>some (.same::ts,a,b)
  |none=>none
 |_,_=>none
mutual
def inst(D:Shp S):Tr S->Nat->Option (SV S×List (Nat×AO S)×Nat)
 | .f x,nx=>some (.f x,[],nx)
 | .same,_=>none
 | .vec e T l,nx=>some (.hnd nx,[(nx,.vec e T l)],nx+1)
 | .kvec _ _ _,_=>none
 | .arr T N l,nx=>some (.arr T N l,[],nx)
 | .map K V F,nx=>some (.hnd nx,[(nx,.map K V F)],nx+1)
 | .ptr ty ts,nx=>match j5k D ts (nx+1) with
  |some (cs,os,nx')=>some (.ref nx 0,(nx,.cells ty cs)::os,nx')
  |none=>none
 | .el T x,nx=>some (.agg ((D.shape T x).map SV.f),[],nx)
 | .agg ts,nx=>match j5k D ts nx with
  |some (cs,os,nx')=>some (.agg cs,os,nx')
  |none=>none
def j5k(D:Shp S):List (Tr S)->Nat->Option (List (SV S)×List (Nat×AO S)×Nat)
 |[],nx=>some ([],[],nx)
 |t::ts,nx=>match inst D t nx with
  |some (s,a,nx')=>match j5k D ts nx' with
   |some (r,b,nx'')=>some (s::r,a++b,nx'')
   |none=>none
  |none=>none
end
mutual
def upd1(ob:Nat->Option (AO S))(lkc:Nat->Nat->SV S):PK S->SV S->SV S->Tr S->Nat->Option (SV S×List (Nat×AO S)×Nat)
 | .c,o,s,t,nx=>match t with
  | .same=>match o with
   | .lk=>some (.lk,[],nx)
   |_=>(toC s).map fun x=>(.f x,[],nx)
  |_=>none
 | .v,o,_,t,nx=>match o,t with
  | .lk,_=>none
  |_,.f x=>some (.f x,[],nx)
  |_,_=>none
 | .sl _,o,_,t,nx=>match o,t with
  | .lk,_=>none
  |_,.f x=>some (.f x,[],nx)
  |_,_=>none
 | .el _,_,_,_,_=>none
 | .own _ _,o,_,t,nx=>match o,t with
  | .lk,_=>none
  |_,.vec e T l=>some (.hnd nx,[(nx,.vec e T l)],nx+1)
  |_,_=>none
 | .kow _ _,o,s,t,nx=>match s,t with
  | .hnd n,.kvec e T l=>some (match o with| .lk=> .lk|_=> .hnd n,[(n,.vec e T l)],nx)
  |_,_=>none
 | .map _ _,o,s,t,nx=>match s,t with
  | .hnd n,.map K V F=>some (match o with| .lk=> .lk|_=> .hnd n,[(n,.map K V F)],nx)
  |_,_=>none
 | .ptr _ pk,o,s,t,nx=>match s,t with
  | .ref n 0,.ptr ty ts=>match ob n with
   |some (.cells _ l)=>match upds ob lkc pk l (resL (lkc n) 0 l) ts nx with
    |some (cs,os,nx')=>some (match o with| .lk=> .lk|_=> .ref n 0,(n,.cells ty cs)::os,nx')
    |none=>none
   |_=>none
  |_,_=>none
 | .agg _,_,_,_,_=>none
def upds(ob:Nat->Option (AO S))(lkc:Nat->Nat->SV S):List (PK S)->List (SV S)->List (SV S)->List (Tr S)->Nat->Option (List (SV S)×List (Nat×AO S)×Nat)
 |[],[],[],[],nx=>some ([],[],nx)
 |p::pk,o::l,s::l',t::ts,nx=>match upd1 ob lkc p o s t nx with
  |some (s,a,nx')=>match upds ob lkc pk l l' ts nx' with
   |some (r,b,nx'')=>some (s::r,a++b,nx'')
   |none=>none
  |none=>none
 |_,_,_,_,_=>none
end
def updT(ob:Nat->Option (AO S))(lkc:Nat->Nat->SV S):List (PK S)->List (SV S)->List (Tr S)->Nat->Option (List (Nat×AO S)×Nat)
 |[],[],[],nx=>some ([],nx)
 | .map K V::pk,s::l,t::ts,nx=>match upd1 ob lkc (.map K V) s s t nx with
  |some (_,a,nx')=>match updT ob lkc pk l ts nx' with
   |some (b,nx'')=>some (a++b,nx'')
   |none=>none
  |none=>none
 | .ptr ty k::pk,s::l,t::ts,nx=>match upd1 ob lkc (.ptr ty k) s s t nx with
  |some (_,a,nx')=>match updT ob lkc pk l ts nx' with
   |some (b,nx'')=>some (a++b,nx'')
   |none=>none
  |none=>none
 | .own _ _::pk,s::l,t::ts,nx=>match t with
  | .same=>updT ob lkc pk l ts nx
  | .vec e T l'=>(match s with
   | .hnd o=>(match updT ob lkc pk l ts nx with
    |some (b,nx'')=>some ((o,.vec e T l')::b,nx'')
    |none=>none)
   |_=>none)
  |_=>none
 |_::pk,_::l,t::ts,nx=>match t with
  | .same=>updT ob lkc pk l ts nx
  |_=>none
 |_,_,_,_=>none
def tupS:List (SV S)->SV S
 |[s]=>s
 |l=> .tup l
def y0f:FV S->Bool
 | .sl _ _=>false
 |_=>true
mutual
def y0g(D:Shp S):Tr S->Bool
 | .f x=>y0f x
 | .same=>false
 | .vec _ T _=>D.flat T
 | .kvec _ T _=>D.flat T
 | .arr T _ _=>D.flat T
 | .map K V _=>D.flat K && D.flat V
 | .ptr _ l=>j4x D l
 | .agg l=>j4x D l
 | .el T _=>D.flat T
def j4x(D:Shp S):List (Tr S)->Bool
 |[]=>true
 |t::l=>y0g D t && j4x D l
end
def w1i(D:Shp S):List (Tr S)->Bool
 |[]=>true
 | .same::l=>w1i D l
 |t::l=>y0g D t && w1i D l
def y0h(ob:Nat->Option (AO S)):List Nat->Option (List (Nat×AO S))
 |[]=>some []
 |o::l=>match ob o,y0h ob l with
  |some a,some r=>some ((o,a)::r)
  |_,_=>none
def y0i(D:Shp S)(ob:Nat->Option (AO S))(rets outs:List (Tr S))(fz:List (Nat×AO S))(fzl:List Nat):List (Nat×AO S):=
 match fzl with
 |[]=>fz
 |l=>bif j4x D rets && w1i D outs then (y0h ob l).getD fz else fz
def z1c:List Nat->Bool
 |[]=>true
 |a::l=> !hasN l a && z1c l
def y4u(D:Shp S)(c:Con S)(ro:Ro S)(st:AS S)(full:List (SV S))(ban:List Nat->Bool)(k:AS S->SV S->Prop):Prop:=
 optK (j0u D (obS ro st) ro.cell c.pk full) fun q=>optK (frzs (obS ro st) q.2.2) fun fz=>
  bif z1c (q.2.1++q.2.2) && inRw st (q.2.1++q.2.2) && ban (q.2.1++q.2.2) then
   c.m q.1 fun rets outs=>optK (updT (obS ro st) ro.cell c.pk full outs st.next) fun a=>optK (j5k D rets a.2) fun r=>
    j7n (r.2.1++(a.1++(y0i D (obS ro st) rets outs fz q.2.2++q1p st.objs (q.2.1++q.2.2)))) fun os=>k {slots:=st.slots,objs:=os,next:=r.2.2} (tupS r.1)
  else False
def w2m(objs:List (Nat×AO S)):List Nat->Option (List (Nat×AO S))
 |[]=>some []
 |o::l=>match Zr objs o,w2m objs l with
  |some a,some r=>some ((o,a)::r)
  |_,_=>none
def w5u:List Nat->(List Nat->Prop)->Prop
 |[],k=>k []
 |i::l,k=>w5u l fun l=>k (i::l)
theorem j7o: ∀{l:List Nat} {k:List Nat->Prop},w5u l k=k l
 |[],_=>rfl
 |_::_,_=>by unfold w5u;rw[j7o]
mutual
def u0d:SV S->List Nat
 | .ref o _=>[o]
 | .eref _ o _ _=>[o]
 | .aref _ _ o _ _=>[o]
 | .hnd o=>[o]
 | .cut o _ _ _=>[o]
 | .agg l=>w8r l
 | .tup l=>w8r l
 | .fn _ a b=>w8r a++w8r b
 |_=>[]
def w8r:List (SV S)->List Nat
 |[]=>[]
 |s::l=>u0d s++w8r l
end
def w5v(ob:Nat->Option (AO S))(lkc:Nat->Nat->SV S):Nat->List Nat->List Nat->List Nat
 |0,_,seen=>seen
 |_+1,[],seen=>seen
 |n+1,o::todo,seen=>bif hasN seen o then w5v ob lkc n todo seen else match ob o with
  |some (.cells _ l)=>w5v ob lkc n (w8r (resL (lkc o) 0 l)++todo) (o::seen)
  |some _=>w5v ob lkc n todo (o::seen)
  |none=>w5v ob lkc n todo seen
def y2x(ro:Ro S)(st:AS S)(full:List (SV S)):List Nat:=(w5v (obS ro st) ro.cell 400 (w8r full) []).filter fun o=>(Zr st.objs o).isSome
def v2w(lz:Bool)(ob:Nat->Option (AO S))(e:Operand->SV S):Op->Bool
 | .alloc _=>true
 | .box _ _=>true
 | .store _ _ _=>true
 | .makeMap _ _=>true
 | .mapUpdate _ _ _ _=>true
 | .insert _ _ _ _=>true
 | .buildSlice _ _ _=>true
 | .makeSlice _ _ _=>true
 | .call ⟨.builtin .append,_,_⟩=>true
 | .call ⟨.builtin .delete,_,_⟩=>true
 | .range _ _=>true
 | .next _ _=>true
 | .slice _ x none (some _) none=>match e x with
  | .hnd o=>match ob o with
   |some (.vec _ _ _)=> !lz
   |_=>false
  |_=>false
 | .slice _ x none none none=>match e x with
  | .ref _ _=>true
  |_=>false
 | .convert _ _ x=>match e x with
  | .f (.str _)=>true
  |_=>false
 | .slice _ x (some _) _ none=>match e x with
  | .hnd o=>match ob o with
   |some (.vec _ _ _)=> !lz
   |_=>false
  |_=>false
 |_=>false
def v56:Op->Bool
 | .call ⟨.value _,_,_⟩=>true
 |_=>false
def lzE(E:Ev S)(o:Oper):Bool:=match o.dst with
 |some d=>(E.plan (E.base+900000+d)).isSome
 |none=>false
def u0e(E:Ev S)(o:Oper):Bool:=match o.dst with
 |some d=>(E.plan (E.base+950000+d)).isSome
 |none=>false
def y7x(E:Ev S)(o:Oper):Bool:=match o.dst with
 |some d=>(E.plan (E.base+960000+d)).isSome
 |none=>false
def altE(E:Ev S)(o:Oper):Bool:=match o.dst with
 |some d=>(E.plan (E.base+990000+d)).isSome
 |none=>false
def wrpE(E:Ev S)(o:Oper):Bool:=match o.dst with
 |some d=>(E.plan (E.base+980000+d)).isSome
 |none=>false
abbrev InlH(S:Sig):=Nat->List (SV S)->Ro S->AS S->(AS S->SV S->Prop)->Prop
def v2x(E:Ev S)(inlh:InlH S)(n:Nat)(ro:Ro S)(st:AS S)(ban:List Nat->Bool)(o:Oper)(k:List Nat->AS S->Prop):Prop:=
 match o.op with
 | .call ⟨.value f,args,_⟩=>(match evS n ro st f with
  | .fn g first cap=>(match (bif y7x E o then none else bif altE E o then E.alt g else E.con g) with
   |some c=>y4u E.D c ro st (first++args.toList.map (evS n ro st)++cap) ban fun st s=>putS ro st o.dst s (k [])
   |none=>w5u (y2x ro st (first++args.toList.map (evS n ro st)++cap)) fun tk=>optK (w2m st.objs tk) fun tko=>
     bif E.inl g && z1c tk && ban (tk++ro.objs.map (·.1)) then
      inlh g (first++args.toList.map (evS n ro st)++cap) ro {slots:=st.slots,objs:=tko,next:=st.next} fun a s=>
       j7n (a.objs++q1p st.objs tk) fun os=>putS ro {slots:=a.slots,objs:=os,next:=a.next} o.dst s (k []) else False)
  |_=>False)
 |op=>bif v2w (lzE E o) (obS ro st) (evS n ro st) op then
   Hb E.P E.D (evS n ro st) (obS ro st) st.next op fun tl outs sv=>bif inRw st tl && ban tl then
    (match sv with
    |some s=>j7n (outs++q1p st.objs tl) fun os=>putS ro {slots:=st.slots,objs:=os,next:=st.next+1} o.dst s (k [])
    |none=>bif o.dst.isNone then j7n (outs++q1p st.objs tl) fun os=>k [] {slots:=st.slots,objs:=os,next:=st.next+1} else False) else False
  else bif wrpE E o then wrpS (evS n ro st) op fun s=>putS ro st o.dst s (k []) else Jv E.P E.D (evS n ro st) (obS ro st) ro.cell op fun rd s=>putS ro st o.dst s (k rd)
def w5w(n:Nat)(ro:Ro S)(ops:Array Oper)(st:AS S)(o:Oper)(yes no:AS S->Prop):Prop:=
 match o.guard with
 |none=>yes st
 |some (j,want)=>match (ops[j]?).bind (·.dst) with
  |none=>False
  |some d=>match evS n ro st (.tmp d) with
   | .lit b=>bif b==want then yes st else no st
   | .und=>no st
   | .f (.bool b)=>Cnd (b=true) (bif want then yes {st with slots:=updS st.slots d (.lit true)} else no {st with slots:=updS st.slots d (.lit true)})
     (bif want then no {st with slots:=updS st.slots d (.lit false)} else yes {st with slots:=updS st.slots d (.lit false)})
   | .pb p _ false=>Cnd p (bif want then yes {st with slots:=updS st.slots d (.lit true)} else no {st with slots:=updS st.slots d (.lit true)})
     (bif want then no {st with slots:=updS st.slots d (.lit false)} else yes {st with slots:=updS st.slots d (.lit false)})
   | .pb p _ true=>Cnd p (bif want then no {st with slots:=updS st.slots d (.lit false)} else yes {st with slots:=updS st.slots d (.lit false)})
     (bif want then yes {st with slots:=updS st.slots d (.lit true)} else no {st with slots:=updS st.slots d (.lit true)})
   |_=>False
def y4v:List Nat->Bool:=fun _=>true
def opsS(E:Ev S)(inlh:InlH S)(n:Nat)(ro:Ro S)(ops:Array Oper):List Oper->AS S->(AS S->Prop)->Prop
 |[],st,k=>k st
 |o::l,st,k=>w5w n ro ops st o (fun st=>v2x E inlh n ro st y4v o fun _ st=>opsS E inlh n ro ops l st k)
   fun st=>putS ro st o.dst .und fun st=>opsS E inlh n ro ops l st k
def depQ(ops:Array Oper)(j i:Nat):Bool:=
 match ops[j]? with
 |some o=>o.after.any fun e=>Region.binds .any e && Nat.beq e.on i
 |none=>false
def y2y(ops:Array Oper)(j:Nat):List Nat:=
 match ops[j]? with
 |some o=>(o.after.toList.filter fun e=>match e.ground with| .data=>true|_=>false).map (·.on)
 |none=>[]
def anyN(f:Nat->Bool):List Nat->Bool
 |[]=>false
 |m::l=>bif f m then true else anyN f l
def depT(ops:Array Oper):Nat->Nat->Nat->Bool
 |0,j,i=>depQ ops j i
 |k+1,j,i=>bif depQ ops j i then true else anyN (fun m=>depT ops k m i) (y2y ops j)
def v57(ops:Array Oper)(j:Nat):List Nat:=
 match ops[j]? with
 |some o=>(o.after.toList.filter fun e=>match e.ground with| .guard=>true|_=>false).map (·.on)
 |none=>[]
def depD(ops:Array Oper)(j i:Nat):Bool:=bif depT ops 12 j i then true else anyN (fun m=>depT ops 12 m i) (v57 ops j)
def v1h(ops:Array Oper)(m mask:Nat)(isP:Oper->Bool):List Nat->Option Nat
 |[]=>none
 |i::l=>match ops[i]? with
  |some o=>bif isP o && o.dst.isSome && Region.free .any ops (bt m mask) i then some i else v1h ops m mask isP l
  |none=>none
def y4w(ops:Array Oper)(j:Nat)(prot:List (Nat×List Nat)):List (Nat×List Nat):=prot.filter fun q=> !depD ops j q.1
def banQ(ro:Ro S)(st:AS S)(ops:Array Oper)(j:Nat)(prot:List (Nat×List Nat))(tl:List Nat):Bool:=
 prot.all fun q=>depD ops j q.1||q.2.all fun o=> !hasN tl o && (match obS ro st o with|some (.frz _ _)=>false|some _=>true|none=>false)
def allR(f:Nat->Prop):List Nat->Prop
 |[]=>True
 |[i]=>f i
 |i::l=>f i/\allR f l
def u0f(lz:Bool)(ro:Ro S)(n:Nat)(ops:Array Oper)(st:AS S)(o:Oper):Bool:=
 !v2w lz (obS ro st) (evS n ro st) o.op && !v56 o.op||(match o.guard with
  |some (j,want)=>match ((ops[j]?).bind (·.dst)).map (fun d=>evS n ro st (.tmp d)) with
   |some (.lit b)=> !(b==want)
   |some .und=>true
   |_=>false
  |none=>false)
def zAO(P:Program)(D:Shp S)(t:TypeId):Option (AO S):=
 match D.acode t with
 |some (T,N)=>some (.arr t T N (List.replicate N (D.zero T)))
 |none=>(match (P.info? t).bind (·.zero) with
  |some z=>bif z.cells.toList.all isZ then some (.cells t (z.cells.toList.map fun v=>SV.f (w09 v))) else none
  |none=>none)
def v58(P:Program)(D:Shp S)(ro:Ro S)(ops:Array Oper)(i:Nat):Bool:=
 match ops[i]? with
 |some o=>(match o.op,o.dst with
  | .alloc t,some d=>(zAO P D t).isSome && !hasN ro.lock d && o.guard.isNone && o.after.toList.isEmpty && (List.range ops.size).all fun j=>Nat.beq j i||(match (ops[j]?).bind (·.dst) with|some d'=> !Nat.beq d' d|none=>true)
  |_,_=>false)
 |none=>false
def v59(P:Program)(D:Shp S)(ro:Ro S)(ops:Array Oper):List Nat:=(List.range ops.size).filter (v58 P D ro ops)
def orL(mask:Nat):List Nat->Nat
 |[]=>mask
 |i::L=>orL (mask|||1<<<i) L
def j26(ops:Array Oper):List Nat->AS S->AS S
 |[],st=>st
 |i::L,st=>j26 ops L (match (ops[i]?).bind (·.dst) with
  |some d=>(match st.slots d with
   | .dead=>st
   |_=>{st with slots:=updS st.slots d .dead})
  |none=>st)
def j7p(ops:Array Oper):List Nat->AS S->(AS S->Prop)->Prop
 |[],st,k=>k st
 |i::L,st,k=>match (ops[i]?).bind (·.dst) with
  |some d=>(match st.slots d with
   | .dead=>j7p ops L st k
   |_=>j7p ops L {st with slots:=updS st.slots d .dead} k)
  |none=>j7p ops L st k
theorem q6t{ops:Array Oper}: ∀{L:List Nat} {st:AS S} {k:AS S->Prop},j7p ops L st k=k (j26 ops L st)
 |[],_,_=>rfl
 |i::L,st,k=>by
  unfold j7p j26;split
  .split
   .rename_i h;rw[q6t]
   .rename_i h;rw[q6t]
  .rw[q6t]
def notL(L:List Nat)(l:List Nat):List Nat:=l.filter fun j=> !hasN L j
def j93(E:Ev S)(inlh:InlH S)(n:Nat)(ro:Ro S)(ops:Array Oper)(m:Nat)(k:AS S->Prop):Nat->List Nat->Nat->List (Nat×List Nat)->AS S->Prop
 |0,L,mask,_,st=>bif L.isEmpty && (Region.ready .any ops (bt m mask)).isEmpty then k st else False
 |fuel+1,L,mask,prot,st=>match notL L (Region.ready .any ops (bt m mask)) with
  |[]=>(match L with
   |[]=>k st
   |i::L'=>bif (Region.ready .any ops (bt m (orL mask L'))).all fun j=>Nat.beq j i then (match ops[i]? with
    |some o=>v2x E inlh n ro st y4v o fun _ st=>j7p ops L' st fun st=>j93 E inlh n ro ops m k fuel L' (mask|||1<<<i) prot st
    |none=>False) else False)
  |rs=>match v1h ops m mask (fun o=> !u0e E o && u0f (lzE E o) ro n ops st o) rs with
   |some i=>(match ops[i]? with
    |some o=>w5w n ro ops st o
      (fun st=>bif v2w (lzE E o) (obS ro st) (evS n ro st) o.op||v56 o.op then False else
       Jv E.P E.D (evS n ro st) (obS ro st) ro.cell o.op fun rd s=>putS ro st o.dst s fun st=>j7p ops L st fun st=>j93 E inlh n ro ops m k fuel L (mask|||1<<<i) ((i,rd)::prot) st)
      fun st=>putS ro st o.dst .und fun st=>j7p ops L st fun st=>j93 E inlh n ro ops m k fuel L (mask|||1<<<i) ((i,[])::prot) st
    |none=>False)
   |none=>bif L.isEmpty||(Region.ready .any ops (bt m (orL mask L))).all (hasN rs) then allR (fun i=>match ops[i]? with
    |some o=>w5w n ro ops st o
      (fun st=>v2x E inlh n ro st (banQ ro st ops i prot) o fun _ st=>j7p ops L st fun st=>j93 E inlh n ro ops m k fuel L (mask|||1<<<i) (y4w ops i prot) st)
      fun st=>putS ro st o.dst .und fun st=>j7p ops L st fun st=>j93 E inlh n ro ops m k fuel L (mask|||1<<<i) (y4w ops i prot) st
    |none=>False) rs else False
def y4x(E:Ev S)(inlh:InlH S)(n:Nat)(ro:Ro S)(ops:Array Oper)(k:AS S->Prop)(st:AS S):Prop:=
 w5u (v59 E.P E.D ro ops) fun L=>j7p ops L st fun st=>j93 E inlh n ro ops ops.size k ops.size L 0 [] st
def v2y(st:AS S)(fz:List Nat)(k:AS S->Prop):Prop:=
 optK (frzs (Zr st.objs) fz) fun l=>bif z1c fz then k {st with objs:=l++q1p st.objs fz} else False
def getK(D:Shp S)(ro:Ro S)(st:AS S)(s:SV S):(kd:Kd S)->(kd.ty->AS S->Prop)->Prop
 | .int kk,K=>(match s with
  | .f (.int k' a)=>bif kk==k' then K a st else False
  |_=>False)
 | .bool,K=>optK (v2p s) fun b=>K b st
 | .str,K=>(match s with
  | .f (.str a)=>K a st
  |_=>False)
 | .sl T,K=>(match s with
  | .f .nils=>K [] st
  | .f (.sl T' l)=>Rt T' T l fun l=>K l st
  | .hnd o=>(match obS ro st o with
   |some (.frz T' l)=>Rt T' T l fun l=>K l st
   |some (.vec _ T' l)=>Rt T' T l fun l=>v2y st [o] fun st=>K l st
   |_=>False)
  |_=>False)
 | .own e T,K=>(match ownQ e T (Zr st.objs) s with
  |some (a,l)=>K l {st with objs:=q1p st.objs a}
  |none=>False)
 | .el T,K=>(match s with
  | .agg cs=>optK (toFs (obS ro st) cs) fun q=>v2y st q.2 fun st=>optK (D.bld T q.1) fun x=>K x st
  |_=>False)
 | .map _ _,_=>False
 | .arr _ _ _,_=>False
 | .iter _ _,_=>False
 | .siter,_=>False
def getO(o:Nat)(st:AS S):(kd:Kd S)->(kd.ty->AS S->Prop)->Prop
 | .own e T,K=>(match Zr st.objs o with
  |some (.vec e' T' l)=>bif Nat.beq e e' then Rt T' T l fun l=>K l {st with objs:=delN st.objs o} else False
  |_=>False)
 | .map Kc V,K=>(match Zr st.objs o with
  |some (.map K' V' F)=>z2g K' V' F Kc V fun F=>K F {st with objs:=delN st.objs o}
  |_=>False)
 | .arr ty T N,K=>(match Zr st.objs o with
  |some (.arr ty' T' N' l)=>bif Nat.beq ty ty' && Nat.beq N N' then Rt T' T l fun l=>K l {st with objs:=delN st.objs o} else False
  |_=>False)
 | .iter Kc V,K=>(match Zr st.objs o with
  |some (.iter K' V' F done _)=>z2g K' V' F Kc V fun F=>Rt K' Kc done fun done=>K (F,done) {st with objs:=delN st.objs o}
  |_=>False)
 | .siter,K=>(match Zr st.objs o with
  |some (.siter s pos)=>K (s,pos) {st with objs:=delN st.objs o}
  |_=>False)
 |_,_=>False
def getI(D:Shp S)(ro:Ro S)(st:AS S):(i:Item S)->(i.2.ty->AS S->Prop)->Prop
 |(.slot j,kd),K=>getK D ro st (q6s ro st j) kd K
 |(.cell o i,kd),K=>(match Zr st.objs o with
  |some (.cells _ l)=>(match l[i]? with
   |some s=>getK D ro st s kd K
   |none=>False)
  |_=>False)
 |(.obj o,kd),K=>getO o st kd K
def v1i(D:Shp S)(ro:Ro S):(l:List (Item S))->AS S->(HL l->AS S->Prop)->Prop
 |[],st,K=>K () st
 |i::l,st,K=>getI D ro st i fun x st=>v1i D ro l st fun xs st=>K (x,xs) st
def putK(D:Shp S)(nm:Nat):(kd:Kd S)->kd.ty->SV S×List (Nat×AO S)
 | .int k,a=>(.f (.int k a),[])
 | .bool,b=>(.f (.bool b),[])
 | .str,a=>(.f (.str a),[])
 | .sl T,l=>(.f (.sl T l),[])
 | .own e T,l=>(.hnd nm,[(nm,.vec e T l)])
 | .el T,x=>(.agg ((D.shape T x).map SV.f),[])
 | .map K V,F=>(.hnd nm,[(nm,.map K V F)])
 | .arr ty T N,l=>(.ref nm 0,[(nm,.arr ty T N l)])
 | .iter K V,x=>(.ref nm 0,[(nm,.iter K V x.1 x.2 none)])
 | .siter,x=>(.ref nm 0,[(nm,.siter x.1 x.2)])
structure Acc(S:Sig) where
 slots:Nat->SV S
 cells:List ((Nat×Nat)×SV S)
 objs:List (Nat×AO S)
def q76(D:Shp S):(l:List (Item S))->HL l->Nat->Acc S->Acc S
 |[],_,_,a=>a
 |(.slot j,kd)::l,(x,xs),nm,a=>q76 D l xs (nm+1) {a with slots:=updS a.slots j (putK D nm kd x).1,objs:=(putK D nm kd x).2++a.objs}
 |(.cell o i,kd)::l,(x,xs),nm,a=>q76 D l xs (nm+1) {a with cells:=((o,i),(putK D nm kd x).1)::a.cells,objs:=(putK D nm kd x).2++a.objs}
 |(.obj o,kd)::l,(x,xs),nm,a=>q76 D l xs (nm+1) {a with objs:=(putK D o kd x).2++a.objs}
def j27:List ((Nat×Nat)×SV S)->Nat->Nat->Option (SV S)
 |[],_,_=>none
 |((o,i),s)::l,o',i'=>bif Nat.beq o o' && Nat.beq i i' then some s else j27 l o' i'
def z87(g:Nat->Option (SV S)):Nat->Nat->List (SV S)
 |_,0=>[]
 |i,n+1=>(g i).getD .lk::z87 g (i+1) n
def v6a(cells:List ((Nat×Nat)×SV S)):List (Nat×TypeId×Nat)->List (Nat×AO S)
 |[]=>[]
 |(o,ty,len)::l=>(o,.cells ty (z87 (j27 cells o) 0 len))::v6a cells l
def stOf(D:Shp S)(sp:Spec S)(nm:Nat)(t:HL sp.items):AS S:=
 let a:=q76 D sp.items t nm ⟨fun _=> .dead,[],[]⟩
 {slots:=a.slots,objs:=a.objs++v6a a.cells sp.cobj,next:=nm+sp.items.length}
def hasC:List (Nat×TypeId×Nat)->Nat->Bool
 |[],_=>false
 |(o,_,_)::l,o'=>bif Nat.beq o o' then true else hasC l o'
def roOf(sp:Spec S)(ro:Ro S)(st:AS S)(robj:List (Nat×AO S)):Ro S where
 slots:=q6s ro st
 lock:=ro.lock++sp.lock
 objs:=robj++ro.objs
 cell:=fun o i=>bif hasC sp.cobj o then (match Zr st.objs o with
  |some (.cells _ l)=>(resL (ro.cell o) 0 l).getD i .dead
  |_=> .dead) else ro.cell o i
 glob:=ro.glob
def z8g(nm:Nat):List (Item S)->Bool
 |[]=>true
 |(.obj o,_)::l=>Nat.blt o nm && z8g nm l
 |(.cell o _,_)::l=>Nat.blt o nm && z8g nm l
 |_::l=>z8g nm l
def y0j(sp:Spec S)(ro:Ro S)(st:AS S):Bool:=
 (sp.cobj.all fun q=>(match Zr st.objs q.1 with
  |some (.cells ty l)=>Nat.beq ty q.2.1 && Nat.beq l.length q.2.2
  |_=>false) && !hasN sp.robj q.1) && z1c ((st.objs++ro.objs).map (·.1)) && z1c sp.robj && z1c (sp.cobj.map (·.1)) && sp.cobj.all (fun q=>Nat.blt q.1 st.next) && z8g st.next sp.items
def j5l(l:List (SV S))(g:Nat->Bool):Nat->List (SV S):=fun i=>
 match l with
 |[]=>[]
 |s::l=>(bif g i then s else .lk)::j5l l g (i+1)
def j28:List (Item S)->Nat->Nat->Bool
 |[],_,_=>false
 |(.cell o i,_)::l,o',i'=>bif Nat.beq o o' && Nat.beq i i' then true else j28 l o' i'
 |_::l,o',i'=>j28 l o' i'
def B2(sp:Spec S):List (Nat×AO S)->List (Nat×AO S)
 |[]=>[]
 |(o,.cells ty l)::os=>(o,bif hasC sp.cobj o then .cells ty (j5l l (j28 sp.items o) 0) else .cells ty l)::B2 sp os
 |q::os=>q::B2 sp os
def w1j(g:Nat->Bool):Nat->List (SV S)->Bool
 |_,[]=>true
 |i,.lk::l=>w1j g (i+1) l
 |i,_::l=>g i && w1j g (i+1) l
def endQ(sp:Spec S)(st:AS S):Bool:=
 sp.cobj.all fun q=>match Zr st.objs q.1 with
  |some (.cells ty l)=>Nat.beq ty q.2.1 && Nat.beq l.length q.2.2 && w1j (j28 sp.items q.1) 0 l
  |_=>false
def endI(D:Shp S)(ro:Ro S)(sp:Spec S)(st:AS S)(Y:HL sp.items->Prop):Prop:=
 v1i D ro sp.items st fun t st=>bif endQ sp st then Y t else False
def j29:List (SV S)->List (SV S)->List (SV S)
 |[],_=>[]
 | .lk::l,l0=>l0.head?.getD .dead::j29 l l0.tail
 |s::l,l0=>s::j29 l l0.tail
def w5x(sp:Spec S)(st:AS S):List (Nat×AO S)->List (Nat×AO S)
 |[]=>[]
 |(o,.cells ty l)::os=>(o,bif hasC sp.cobj o then .cells ty (j29 l (match Zr st.objs o with|some (.cells _ l0)=>l0|_=>[])) else .cells ty l)::w5x sp st os
 |q::os=>q::w5x sp st os
def w5y(sp:Spec S)(st:AS S)(robj:List (Nat×AO S))(a:AS S):AS S where
 slots:=fun j=>bif hasN sp.lock j then st.slots j else a.slots j
 objs:=w5x sp st a.objs++robj
 next:=a.next
def LpH{T:Type}(body:T->(T->Prop)->Prop)(t:T):Prop:= ∀X:T->Prop,(∀t' Y,(∀u,Y u->X u)->body t' Y->X t')->X t
def LpG:(l:List (Item S))->(HL l->(HL l->Prop)->Prop)->HL l->Prop
 |[_],body,t=>Lp1 (fun x Y=>body (x,()) fun u=>Y u.1) t.1
 |[_,_],body,t=>Lp2 (fun x y Y=>body (x,y,()) fun u=>Y u.1 u.2.1) t.1 t.2.1
 |[_,_,_],body,t=>Lp3 (fun x y z Y=>body (x,y,z,()) fun u=>Y u.1 u.2.1 u.2.2.1) t.1 t.2.1 t.2.2.1
 |[_,_,_,_],body,t=>Lp4 (fun x y z v Y=>body (x,y,z,v,()) fun u=>Y u.1 u.2.1 u.2.2.1 u.2.2.2.1) t.1 t.2.1 t.2.2.1 t.2.2.2.1
 |[_,_,_,_,_],body,t=>Lp5 (fun x y z v w Y=>body (x,y,z,v,w,()) fun u=>Y u.1 u.2.1 u.2.2.1 u.2.2.2.1 u.2.2.2.2.1) t.1 t.2.1 t.2.2.1 t.2.2.2.1 t.2.2.2.2.1
 |_,body,t=>LpH body t
def JnG:(l:List (Item S))->(HL l->Prop)->((HL l->Prop)->Prop)->Prop
 |[],k,A=>Jn0 (k ()) fun Y=>A fun _=>Y
 |[_],k,A=>Jn1 (fun x=>k (x,())) fun Y=>A fun u=>Y u.1
 |[_,_],k,A=>Jn2 (fun x y=>k (x,y,())) fun Y=>A fun u=>Y u.1 u.2.1
 |[_,_,_],k,A=>Jn3 (fun x y z=>k (x,y,z,())) fun Y=>A fun u=>Y u.1 u.2.1 u.2.2.1
 |[_,_,_,_],k,A=>Jn4 (fun x y z v=>k (x,y,z,v,())) fun Y=>A fun u=>Y u.1 u.2.1 u.2.2.1 u.2.2.2.1
 |_,k,A=>Jn1 k A
def keyC:Code->Nat
 | .region id _ _=>id
 | .seq a _=>keyC a
 | .cond _ a _=>keyC a
 | .block _ a=>keyC a
 | .loop a=>keyC a
 | .scope a=>keyC a
 |_=>0
abbrev Kc(S:Sig):=Exit->AS S->Prop
def y4y(f:AS S->Prop)(k:Kc S):Kc S
 | .normal,st=>f st
 |e,st=>k e st
def y2z(id:Nat)(k:Kc S):Kc S
 | .exit i,st=>bif Nat.beq i id then k .normal st else k (.exit i) st
 |e,st=>k e st
def y7y(k:Kc S):Kc S
 | .goto _,_=>False
 |e,st=>k e st
def y20(_:Nat)(_:Ro S)(_:AS S):Prop:=False
def y0k(key:Nat)(ro:Ro S)(st:AS S)(o:Option (List (Nat×AO S)))(k:List (Nat×AO S)->Prop):Prop:=
 match o with
 |some x=>k x
 |none=>y20 key ro st
def vcC(E:Ev S)(inlh:InlH S)(n:Nat):Code->Ro S->Kc S->AS S->Prop
 | .skip,_,k,st=>k .normal st
 | .region _ ops draw,ro,k,st=>bif draw then (bif Region.noSelect ops then y4x E inlh n ro ops (k .normal) st else False) else opsS E inlh n ro ops ops.toList st (k .normal)
 | .seq x y,ro,k,st=>match E.plan (E.base+2*keyC y) with
  |none=>vcC E inlh n x ro (y4y (vcC E inlh n y ro k) k) st
  |some sp=>y0k (E.base+2*keyC y) ro st (w2m st.objs sp.robj) fun robj=>bif y0j sp ro st then
    JnG sp.items (fun t=>vcC E inlh n y ro k (w5y sp st robj (stOf E.D sp st.next t)))
     fun Y=>vcC E inlh n x (roOf sp ro st robj) (y4y (fun a=>endI E.D (roOf sp ro st robj) sp a Y) fun e a=>k e (w5y sp st robj a))
      {slots:=st.slots,objs:=B2 sp (q1p st.objs sp.robj),next:=st.next}
   else False
 | .cond c x y,ro,k,st=>tst (evS n ro st c) (vcC E inlh n x ro k st) (vcC E inlh n y ro k st)
 | .block id b,ro,k,st=>vcC E inlh n b ro (y2z id k) st
 | .loop b,ro,k,st=>match E.plan (E.base+2*keyC b+1) with
  |none=>y20 (E.base+2*keyC b+1) ro st
  |some sp=>y0k (E.base+2*keyC b+1) ro st (w2m st.objs sp.robj) fun robj=>bif y0j sp ro st then
    endI E.D (roOf sp ro st robj) sp {slots:=st.slots,objs:=B2 sp (q1p st.objs sp.robj),next:=st.next} fun t0=>
     LpG sp.items (fun t Y=>vcC E inlh n b (roOf sp ro st robj) (y4y (fun a=>endI E.D (roOf sp ro st robj) sp a Y) fun e a=>k e (w5y sp st robj a)) (stOf E.D sp st.next t)) t0
   else False
 | .exit i,_,k,st=>k (.exit i) st
 | .scope b,ro,k,st=>vcC E inlh n b ro (y7y k) st
 | .ret,_,k,st=>k .ret st
 | .label _,_,k,st=>k .normal st
 |_,_,_,_=>False
def resK(P:Program)(D:Shp S)(n:Nat)(ro:Ro S)(st:AS S):List ResultVar->(List (SV S)->Prop)->Prop
 |[],K=>K []
 | .tmp t::l,K=>resK P D n ro st l fun r=>K (evS n ro st (.tmp t)::r)
 | .cell t ty::l,K=>Jv P D (evS n ro st) (obS ro st) ro.cell (.load ty (.tmp t)) fun _ s=>resK P D n ro st l fun r=>K (s::r)
def frlS(l:List (SV S)):Nat->SV S:=fun j=>l.getD j .und
def z68:List (Item S)->List (Item S)
 |[]=>[]
 |(.slot _,_)::l=>z68 l
 |i::l=>i::z68 l
def j0v(sp:Spec S):Spec S:={sp with items:=z68 sp.items}
def v6b(objs:List (Nat×AO S)):List (Item S)->Bool
 |[]=>true
 |(.obj o,_)::l=>(Zr objs o).isSome && v6b objs l
 |(.cell o _,_)::l=>(Zr objs o).isSome && v6b objs l
 |_::l=>v6b objs l
def refQ:SV S->SV S->Bool
 | .ref a b,.ref c d=>Nat.beq a c && Nat.beq b d
 |_,_=>false
def RecH{T U:Type}(body:(Nat->T->(U->Prop)->Prop)->Nat->T->(U->Prop)->Prop)(n:Nat)(t:T)(K:U->Prop):Prop:=
 ∀X:Nat->T->(U->Prop)->Prop,(∀n t K,body X n t K->X n t K)->X n t K
def hndl(D:Shp S)(g:Nat)(sp:Spec S)(ro1:Ro S)(full:List (SV S))(X:Nat->HL sp.items->(HL (j0v sp).items->Prop)->Prop):InlH S:=fun g' full' ro' st' k'=>
 bif Nat.beq g' g && Nat.beq ro'.stamp 1 && Nat.beq full'.length full.length && sp.lock.all (fun j=>refQ (frlS full' j) (frlS full j)) && v6b st'.objs sp.items then
  endI D ro1 sp {slots:=frlS full',objs:=st'.objs,next:=st'.next} fun t=>X st'.next t fun u=>
   k' {slots:=st'.slots,objs:=(stOf D (j0v sp) st'.next u).objs,next:=(stOf D (j0v sp) st'.next u).next} (.tup []) else False
def u0g(D:Shp S)(sp:Spec S)(ro1:Ro S)(Y:HL (j0v sp).items->Prop):Kc S:=fun e a=>
 match e with
 | .ret=>endI D ro1 (j0v sp) a Y
 | .normal=>endI D ro1 (j0v sp) a Y
 |_=>False
def inlN(E:Ev S):Nat->InlH S
 |0=>fun _ _ _ _ _=>False
 |fuel+1=>fun g full ro st k=>match E.P.funcs[g]? with
  |some fn=>(match fn.body with
   |some c=>bif Nat.ble full.length fn.ntmps then
     (match E.plan (1000000*(g+1)+999999) with
     |none=>vcC (E.at (1000000*(g+1))) (inlN E fuel) fn.ntmps c {slots:=fun _=> .dead,lock:=[],objs:=ro.objs,cell:=ro.cell,glob:=ro.glob}
      (fun e a=>match e with
       | .ret=>resK E.P E.D fn.ntmps {slots:=fun _=> .dead,lock:=[],objs:=ro.objs,cell:=ro.cell,glob:=ro.glob} a fn.results.toList fun r=>k {slots:=st.slots,objs:=a.objs,next:=a.next} (tupS r)
       | .normal=>resK E.P E.D fn.ntmps {slots:=fun _=> .dead,lock:=[],objs:=ro.objs,cell:=ro.cell,glob:=ro.glob} a fn.results.toList fun r=>k {slots:=st.slots,objs:=a.objs,next:=a.next} (tupS r)
       |_=>False)
      {slots:=frlS full,objs:=st.objs,next:=st.next}
     |some sp=>
      let ro0:Ro S:={slots:=fun _=> .dead,lock:=[],objs:=ro.objs,cell:=ro.cell,glob:=ro.glob};let st0:AS S:={slots:=frlS full,objs:=st.objs,next:=st.next}
      y0k (1000000*(g+1)+999999) ro0 st0 (w2m st0.objs sp.robj) fun robj=>bif y0j sp ro0 st0 && sp.cobj.isEmpty && fn.results.toList.isEmpty then
       endI E.D {roOf sp ro0 st0 robj with stamp:=1} sp {slots:=st0.slots,objs:=B2 sp (q1p st0.objs sp.robj),next:=st0.next} fun t0=>
        RecH (fun X nm t Y=>vcC (E.at (1000000*(g+1))) (hndl E.D g sp {roOf sp ro0 st0 robj with stamp:=1} full X) fn.ntmps c {roOf sp ro0 st0 robj with stamp:=1} (u0g E.D sp {roOf sp ro0 st0 robj with stamp:=1} Y) (stOf E.D sp nm t))
         st.next t0 fun u=>k {slots:=st.slots,objs:=(w5y sp st0 robj (stOf E.D (j0v sp) st.next u)).objs,next:=(stOf E.D (j0v sp) st.next u).next} (.tup [])
      else False) else False
   |none=>False)
  |none=>False
mutual
def cons:PK S->SV S->(Nat->Option (AO S))->List (Nat×Nat)
 | .ptr _ pk,.ref o 0,ob=>match ob o with
  |some (.cells _ l)=>y4z o 0 pk l ob
  |_=>[]
 |_,_,_=>[]
def y4z(o i:Nat):List (PK S)->List (SV S)->(Nat->Option (AO S))->List (Nat×Nat)
 | .c::pk,_::l,ob=>(o,i)::y4z o (i+1) pk l ob
 |p::pk,s::l,ob=>cons p s ob++y4z o (i+1) pk l ob
 |_,_,_=>[]
end
def y0l:List (PK S)->List (SV S)->(Nat->Option (AO S))->List (Nat×Nat)
 |p::pk,s::l,ob=>cons p s ob++y0l pk l ob
 |_,_,_=>[]
def hasP:List (Nat×Nat)->Nat->Nat->Bool
 |[],_,_=>false
 |(a,b)::l,o,i=>bif Nat.beq a o && Nat.beq b i then true else hasP l o i
def w8s(cs:List (Nat×Nat)):List (Nat×AO S)->List (Nat×AO S)
 |[]=>[]
 |(o,.cells ty l)::os=>(o,.cells ty (j5l l (fun i=> !hasP cs o i) 0))::w8s cs os
 |q::os=>q::w8s cs os
def fnVC(E:Ev S)(fuel g:Nat)(pk rk:List (PK S))(args:List (Tr S))(K:List (Tr S)->List (Tr S)->Prop):Prop:=
 match E.P.funcs[g]? with
 |some fn=>(match fn.body,j5k E.D args 0 with
  |some c,some (ss,os,nx)=>bif Nat.ble ss.length fn.ntmps then
    let cs:=y0l pk ss (Zr os);let ro:Ro S:={slots:=fun _=> .dead,lock:=[],objs:=[],cell:=fun o i=>match Zr os o with|some (.cells _ l)=>l.getD i .dead|_=> .dead,glob:=E.D.glob}
    vcC E (inlN E fuel) fn.ntmps c ro
     (fun e a=>match e with
      | .ret=>resK E.P E.D fn.ntmps ro a fn.results.toList fun r=>optK (j0u E.D (obS ro a) ro.cell rk r) fun q=>optK (j5j (obS ro a) (Zr os) ro.cell pk ss) fun q'=>optK (frzs (obS ro a) (q.2.2++q'.2.2)) fun _=>
        bif z1c (q.2.1++q'.2.1++(q.2.2++q'.2.2)) && inRw a (q.2.1++q'.2.1++(q.2.2++q'.2.2)) then K q.1 q'.1 else False
      | .normal=>resK E.P E.D fn.ntmps ro a fn.results.toList fun r=>optK (j0u E.D (obS ro a) ro.cell rk r) fun q=>optK (j5j (obS ro a) (Zr os) ro.cell pk ss) fun q'=>optK (frzs (obS ro a) (q.2.2++q'.2.2)) fun _=>
        bif z1c (q.2.1++q'.2.1++(q.2.2++q'.2.2)) && inRw a (q.2.1++q'.2.1++(q.2.2++q'.2.2)) then K q.1 q'.1 else False
      |_=>False)
     {slots:=frlS ss,objs:=w8s cs os,next:=nx} else False
  |_,_=>False)
 |none=>False
end Go.Fx
end
noncomputable section
namespace Go.Fx
open Go Go.RowKit Go.Fl Go.Fl.Lk
variable {S:Sig}{P:Program}{D:Shp S}{ν ν' ν0:Nm}{σ τ:Hv}{n:Nat}{f:Fr}
variable {w:World}{cx:Cx}{ro:Ro S}{st:AS S}{ms:List HObj}
structure Glb(D:Shp S)(σ:Hv):Prop where
 known: ∀g,SRep D (fun _=>none) σ (.pointer (some ⟨g,0,none⟩)) (D.glob g)
 free: ∀g k,D.gopen g=some k-> ∃n:Int,σ.cell ⟨g,0,none⟩=some (.int k n)
 blk: ∀g cs,D.gblk g=some cs-> ∃t q,σ g=some (.cells cs t q)
theorem Glb.mono{D:Shp S}{σ τ:Hv}(h:Glb D σ)(hs:Sub σ τ):Glb D τ:=⟨fun g=>(h.known g).mono (Ext.refl _) hs,fun g k hk=>(h.free g k hk).imp fun _ h=>hs.cell h,fun g cs hk=>(h.blk g cs hk).imp fun _ h=>h.imp fun _ h=>hs _ _ h⟩
theorem j0w{a b:Nat->SV S}{D:Shp S}{σ τ:Hv}(h:a=b/\Glb D σ)(hs:Sub σ τ):a=b/\Glb D τ:=⟨h.1,h.2.mono hs⟩
structure G(D:Shp S)(cx:Cx)(ν0:Nm)(ro:Ro S)(st:AS S)(f:Fr)(w:World)(ν:Nm)(σ:Hv)(ms:List HObj):Prop where
 mem:St cx w σ ms
 objs:Objs D ν σ ro.cell (st.objs++ro.objs) ms
 slots: ∀j,SRep D ν σ (f j) (q6s ro st j)
 fresh: ∀o,st.next<=o->ν o=none
 ext:Ext ν0 ν
 glob:ro.glob=D.glob/\Glb D σ
theorem v2z(v:Value):SRep D ν σ v (w8i v):=by
 unfold w8i;split
 .exact .lit _
 .exact .f (.int _ _)
 .exact .f (.str _)
 .exact .f .nilp
 .exact .f .nils
 .exact .f .nilm
 .exact .f .nilf
 .exact .dead _
theorem Uq{α:Type}{os os':List (Nat×α)}{o:Nat}:Zr (os++os') o=match Zr os o with|some a=>some a|none=>Zr os' o:=by
 induction os with
 |nil=>rfl
 |cons q os ih=>
  obtain⟨o',a⟩:=q;simp only[List.cons_append,Zr];cases Nat.beq o' o with
  |true=>rfl
  |false=>exact ih
theorem w2n{o:Nat}:obS ro st o=Zr (st.objs++ro.objs) o:=by unfold obS;rw[Uq];cases Zr st.objs o<;>rfl
theorem v6c(h: ∀j,SRep D ν σ (f j) (q6s ro st j))(hg:ro.glob=D.glob/\Glb D σ)(x:Operand):SRep D ν σ (ev n f x) (evS n ro st x):=by
 cases x with
 |tmp t=>
  simp only[ev,evS];cases Nat.blt t n with
  |true=>exact h t
  |false=>exact .und
 |const v=>exact v2z v
 |global g=>
  show SRep D ν σ _ (ro.glob g);rw[hg.1];exact (hg.2.known g).mono (fun o v h=>by cases h) (Sub.refl _)
 |func k=>exact .fn k [] [] [] [] rfl (fun j v s h=>by cases h) rfl (fun j v s h=>by cases h)
theorem Objs.find: ∀{os:List (Nat×AO S)} {ms:List HObj} {lkc:Nat->Nat->SV S},Objs D ν σ lkc os ms-> ∀{o a},Zr os o=some a-> ∃m∈ms,ORep D ν σ lkc o a m
 |[],[],_,_,_,_,h=>by cases h
 |(o',a')::os,m::ms,_,h,o,a,hf=>by
  simp only[Zr] at hf;cases hb:Nat.beq o' o with
  |true=>
   rw[hb] at hf;cases hf;rw[<-e9 hb];exact⟨m,by simp,h.1⟩
  |false=>
   rw[hb] at hf;obtain⟨m',hm,hr⟩:=Objs.find h.2 hf;exact⟨m',by simp[hm],hr⟩
theorem G.kn(h:G D cx ν0 ro st f w ν σ ms): ∃oh:Nat->HObj,Kn D ν σ n f w (evS n ro st) (obS ro st) ro.cell oh/\∀o a,obS ro st o=some a->oh o∈ms:=by
 have hc: ∀o,∃m:HObj,∀a,obS ro st o=some a->m∈ms/\ORep D ν σ ro.cell o a m:=by
  intro o;cases ho:obS ro st o with
  |none=>exact⟨triv,fun a h=>by cases h⟩
  |some a=>
   obtain⟨m,hm,hr⟩:=h.objs.find (w2n▸ho);exact⟨m,fun a' h'=>by cases h';exact⟨hm,hr⟩⟩
 refine⟨fun o=>Classical.choose (hc o),⟨v6c h.slots h.glob,fun o a ho=> ?_⟩,fun o a ho=>(Classical.choose_spec (hc o) a ho).1⟩;obtain⟨h1,h2⟩:=Classical.choose_spec (hc o) a ho;exact⟨h2,h.mem.own _ h1⟩
def putF(f:Fr)(d:Option Nat)(v:Value):Fr:=match d with|some d=>upd f d v|none=>f
theorem z42(d:Option Nat)(v:Value):(mk n f).put d v=mk n (putF f d v):=by
 cases d with
 |none=>exact v0w n f v
 |some d=>exact w00 n f d v
theorem y0m{d:Nat}{s:SV S}(hd:hasN ro.lock d=false)(j:Nat):q6s ro {st with slots:=updS st.slots d s} j=bif Nat.beq j d then s else q6s ro st j:=by
 unfold q6s updS;cases hj:Nat.beq j d with
 |false=>simp only[hj,cond_false]
 |true=>
  have:=e9 hj;subst this;rw[hd];simp
theorem G.put{d:Option Nat}{s:SV S}{v:Value}{k:AS S->Prop}(h:G D cx ν0 ro st f w ν σ ms)(hs:SRep D ν σ v s)(hk:putS ro st d s k): ∃st',k st'/\st'.objs=st.objs/\st'.next=st.next/\G D cx ν0 ro st' (putF f d v) w ν σ ms:=by
 cases d with
 |none=>exact⟨st,hk,rfl,rfl,h⟩
 |some d=>
  simp only[putS] at hk;cases hd:hasN ro.lock d with
  |true=>rw[hd] at hk;exact hk.elim
  |false=>
   rw[hd,cond_false,w5t] at hk;refine⟨_,hk,rfl,rfl,h.mem,h.objs,fun j=> ?_,h.fresh,h.ext,h.glob⟩;rw[y0m hd];show SRep D ν σ (bif Nat.beq j d then v else f j) _;cases Nat.beq j d with
   |true=>exact hs
   |false=>exact h.slots j
def v6d:Value->Option Nat
 | .pointer (some a)=>some a.block
 | .map (some b)=>some b
 |v=>v.ownBlock
theorem ORep.foot{o:Nat}{a:AO S}{m:HObj}{lkc:Nat->Nat->SV S}{b:Nat}(h:ORep D ν σ lkc o a m)(hok:m.ok w)(hb:m.foot=some b): ∃v,ν o=some v/\v6d v=some b:=by
 cases a with
 |cells ty l=>obtain⟨b',cs,h1,rfl,_⟩:=h;cases hb;exact⟨_,h1,rfl⟩
 |vec e T l=>
  obtain⟨v,xs,h1,rfl,_⟩:=h;refine⟨v,h1,?_⟩;obtain⟨a,cap,rfl⟩:=j65 hok;exact hb
 |frz T l=>obtain⟨v,h1,rfl,_⟩:=h;cases hb
 |arr ty T N l=>obtain⟨b',cs,h1,rfl,_⟩:=h;cases hb;exact⟨_,h1,rfl⟩
 |iter K V F done cur=>obtain⟨r,b',es,clock,cv,h1,rfl,_⟩:=h;cases hb;exact⟨_,h1,rfl⟩
 |siter s pos=>obtain⟨r,h1,rfl⟩:=h;cases hb;exact⟨_,h1,rfl⟩
 |map K V F=>obtain⟨b',m,h1,rfl,_⟩:=h;cases hb;exact⟨_,h1,rfl⟩
def y40:AO S->Bool
 | .frz _ _=>true
 |_=>false
theorem ORep.foot'{o:Nat}{a:AO S}{m:HObj}{lkc:Nat->Nat->SV S}{b:Nat}{v:Value}(h:ORep D ν σ lkc o a m)(hok:m.ok w)(ha:y40 a=false)(hv:ν o=some v)(hb:v6d v=some b):m.foot=some b:=by
 cases a with
 |cells ty l=>obtain⟨b',cs,h1,rfl,_⟩:=h;rw[hv] at h1;cases h1;exact hb
 |vec e T l=>
  obtain⟨v',xs,h1,rfl,_⟩:=h;rw[hv] at h1;cases h1;obtain⟨a,cap,rfl⟩:=j65 hok;exact hb
 |frz T l=>cases ha
 |arr ty T N l=>obtain⟨b',cs,h1,rfl,_⟩:=h;rw[hv] at h1;cases h1;exact hb
 |iter K V F done cur=>obtain⟨r,b',es,clock,cv,h1,rfl,_⟩:=h;rw[hv] at h1;cases h1;exact hb
 |siter s pos=>obtain⟨r,h1,rfl⟩:=h;rw[hv] at h1;cases h1;exact hb
 |map K V F=>obtain⟨b',m,h1,rfl,_⟩:=h;rw[hv] at h1;cases h1;exact hb
theorem w5z{α:Type}{os:List (Nat×α)}{o o':Nat}(h:o≠o'):Zr (delN os o) o'=Zr os o':=by
 induction os with
 |nil=>rfl
 |cons q os ih=>
  obtain⟨x,a⟩:=q;simp only[delN];cases hb:Nat.beq x o with
  |true=>
   have:=e9 hb;subst this;simp only[cond_true,Zr];have:Nat.beq x o'=false:=by
    cases hq:Nat.beq x o' with
    |false=>rfl
    |true=>exact absurd (e9 hq) h
   rw[this];rfl
  |false=>
   simp only[cond_false,Zr,ih]
theorem z69{α:Type}: ∀{tl:List Nat} {os:List (Nat×α)} {o:Nat},o∉tl->Zr (q1p os tl) o=Zr os o
 |[],_,_,_=>rfl
 |x::tl,os,o,h=>by rw[q1p,z69 (fun hm=>h (by simp[hm]))];exact w5z (fun he=>h (by simp[he]))
theorem j7q{α:Type}{os os':List (Nat×α)}{o:Nat}{a:α}(h:Zr os o=some a):delN (os++os') o=delN os o++os':=by
 induction os with
 |nil=>cases h
 |cons q os ih=>
  obtain⟨x,b⟩:=q;simp only[Zr] at h;simp only[List.cons_append,delN];cases hb:Nat.beq x o with
  |true=>rfl
  |false=>
   rw[hb] at h;simp only[cond_false];rw[ih h];rfl
theorem Objs.takes{lkc:Nat->Nat->SV S}: ∀{tlo os os':List (Nat×AO S)} {ms:List HObj},Objs D ν σ lkc (os++os') ms->(tlo.map (·.1)).Nodup->(∀q∈tlo,Zr os q.1=some q.2)->
  ∃ins rest,ms.Perm (ins++rest)/\Objs D ν σ lkc tlo ins/\Objs D ν σ lkc (q1p os (tlo.map (·.1))++os') rest:=by
 intro tlo
 induction tlo with
 |nil=>intro os os' ms h _ _;exact⟨[],ms,.refl _,trivial,h⟩
 |cons q tlo ih=>
  intro os os' ms h hn hq;obtain⟨o,a⟩:=q;have hoa:=hq (o,a) (by simp);simp only at hoa;have hf:Zr (os++os') o=some a:=by rw[Uq,hoa]
  obtain⟨m,ms',hp,hr,ho⟩:=h.take hf;rw[j7q hoa] at ho;rw[List.map_cons,List.nodup_cons] at hn
  obtain⟨ins,rest,hp2,h1,h2⟩:=ih ho hn.2 (fun q hq'=>by
   rw[w5z (fun he=>hn.1 (by rw[he];exact List.mem_map.2 ⟨q,hq',rfl⟩))]
   exact hq q (by simp[hq']))
  exact⟨m::ins,rest,hp.trans (hp2.cons m),⟨hr,h1⟩,h2⟩
theorem w50{tl:List Nat}(h:inRw st tl=true): ∀o∈tl,∃a,Zr st.objs o=some a:=by
 induction tl with
 |nil=>simp
 |cons x tl ih=>
  obtain⟨h1,h2⟩:=Q6 h;intro o ho;rcases List.mem_cons.1 ho with rfl|ho
  .exact Option.isSome_iff_exists.1 h1
  .exact ih h2 o ho
theorem v6e{o:Nat}{a b:AO S}(h:Zr st.objs o=some a)(h':obS ro st o=some b):Zr st.objs o=some b:=by unfold obS at h';rw[h] at h';rw[h];exact h'
def Left(ro:Ro S)(st:AS S)(ν:Nm)(w w':World)(ban:List Nat->Bool):Prop:=
 w'=w\/ ∃tl,ban tl=true/\∀b o a v,o∉tl->Zr (st.objs++ro.objs) o=some a->y40 a=false->ν o=some v->v6d v=some b->w'.heap[b]? =w.heap[b]?
def w51(P:Program)(D:Shp S)(cx:Cx)(ν0:Nm)(ro:Ro S)(st:AS S)(n:Nat)(o:Oper)(f:Fr)(w:World)(ν:Nm)(σ:Hv)(ban:List Nat->Bool)(k:List Nat->AS S->Prop):Prop:=
 ∀(KK:Act->World->Prop) (Q:Exit->Act->World->Prop),(∀rd st' f' w' ν' σ' ms',k rd st'->G D cx ν0 ro st' f' w' ν' σ' ms'->Ext ν ν'->Sub σ σ'->(∃v,f'=putF f o.dst v)->Left ro st ν w w' ban->KK (mk n f') w')->o.wp P (mk n f) w KK Q
theorem G.turn{tl:List Nat}{tlo:List (Nat×AO S)}(h:G D cx ν0 ro st f w ν σ ms)(ht:tlo.map (·.1)=tl)(hn:tl.Nodup)(hrw:inRw st tl=true)(hob: ∀q∈tlo,obS ro st q.1=some q.2):
  ∃ins,Objs D ν σ ro.cell tlo ins/\St ⟨w,σ,feet ins⟩ w σ ins/\∀{outs:List (Nat×AO S)} {w':World} {σ':Hv} {ν':Nm} {ms':List HObj} {nx:Nat},Ext ν ν'->(∀o,nx<=o->ν' o=none)->St ⟨w,σ,feet ins⟩ w' σ' ms'->Objs D ν' σ' ro.cell outs ms'->
   Sub σ σ'/\(∃ms2,G D cx ν0 ro {slots:=st.slots,objs:=outs++q1p st.objs tl,next:=nx} f w' ν' σ' ms2)/\∀b o a v,o∉tl->Zr (st.objs++ro.objs) o=some a->y40 a=false->ν o=some v->v6d v=some b->w'.heap[b]? =w.heap[b]? :=by
 subst ht
 obtain⟨ins,rest,hp,h1,h2⟩:=h.objs.takes hn (fun q hq=>by
  obtain⟨a,ha⟩:=w50 hrw q.1 (List.mem_map.2 ⟨q,hq,rfl⟩)
  exact v6e ha (hob q hq))
 have hS:=h.mem.perm hp;refine⟨ins,h1,hS.inner,fun {outs w' σ' ν' ms' nx} hext hfr hS' ho'=> ?_⟩;have hsub:Sub σ σ':=hS'.sub;refine⟨hsub,⟨ms'++rest,hS.callM hS' rfl,?_,fun j=>(h.slots j).mono hext hsub,hfr,h.ext.trans hext,j0w h.glob hsub⟩,fun b o a v ho hf ha hv hb=> ?_⟩
 .rw[List.append_assoc];exact ho'.append (h2.mono hext hsub)
 .have hf2:Zr (q1p st.objs (tlo.map (·.1))++ro.objs) o=some a:=by rw[Uq,z69 ho,<-Uq];exact hf
  obtain⟨m,hm,hr⟩:=h2.find hf2;have hmo:=hS.own m (by simp[hm]);have hmb:=hr.foot' hmo ha hv hb;refine hS'.keeps.block b (m.lt w b hmo hmb) fun hmem=> ?_
  obtain⟨m',hm',hmb'⟩:=q2h.1 hmem;exact (List.pairwise_append.1 hS.sep).2.2 m' hm' m hm b hmb' hmb
theorem y0n{o:Oper}{ban:List Nat->Bool}{k:List Nat->AS S->Prop}(hP:D.OkP P)(h:G D cx ν0 ro st f w ν σ ms)
  (hk:Hb P D (evS n ro st) (obS ro st) st.next o.op fun tl outs sv=>bif inRw st tl && ban tl then
    (match sv with
    |some s=>putS ro {slots:=st.slots,objs:=outs++q1p st.objs tl,next:=st.next+1} o.dst s (k [])
    |none=>bif o.dst.isNone then k [] {slots:=st.slots,objs:=outs++q1p st.objs tl,next:=st.next+1} else False) else False):
  w51 P D cx ν0 ro st n o f w ν σ ban k:=by
 intro KK Q hKK;obtain⟨oh,kn,_⟩:=h.kn (n:=n);obtain⟨tl,outs,sv,tlo,hK,ht,hn,hob,hrun⟩:=y7w (f:=f) hP (h.fresh _ (Nat.le_refl _)) h.mem.view kn hk;obtain⟨hc,hK⟩:=J1 hK;obtain⟨hrw,hban⟩:=Q6 hc;obtain⟨ins,h1,h2,h3⟩:=h.turn ht hn hrw hob;obtain⟨w',σ',ν',ms',x,hr,hext,hnew,hS',ho',hx⟩:=hrun ins h1 h2 o rfl;have hfr: ∀m,st.next+1<=m->ν' m=none:=by
  intro m hm;rcases hq:ν' m with _|u
  .rfl
  .rcases hnew m u hq with h4|h4
   .rw[h.fresh m (by omega)] at h4;cases h4
   .omega
 obtain⟨hsub,⟨ms2,hG⟩,hleft⟩:=h3 hext hfr hS' ho';unfold Oper.wp;rw[He,hr];cases sv with
 |none=>
  obtain⟨hd,hK⟩:=J1 hK;have hx':x= .skip:=hx;subst hx';show KK ((mk n f).put o.dst undef) w';have hd':o.dst=none:=by simpa using hd
  rw[z42];refine hKK [] _ _ w' ν' σ' ms2 hK ?_ hext hsub ⟨undef,rfl⟩ (.inr ⟨tl,hban,hleft⟩);rw[hd'];exact hG
 |some s=>
  obtain⟨v,rfl,hs⟩:=hx;show KK ((mk n f).put o.dst v) w';rw[z42];obtain⟨st',hk',_,_,hG'⟩:=hG.put hs hK;exact hKK [] st' _ w' ν' σ' ms2 hk' hG' hext hsub ⟨v,rfl⟩ (.inr ⟨tl,hban,hleft⟩)
theorem v6f{o:Oper}{ban:List Nat->Bool}{k:List Nat->AS S->Prop}(hP:D.OkP P)(h:G D cx ν0 ro st f w ν σ ms)
  (hk:Jv P D (evS n ro st) (obS ro st) ro.cell o.op fun rd s=>putS ro st o.dst s (k rd)):w51 P D cx ν0 ro st n o f w ν σ ban k:=by
 intro KK Q hKK;obtain⟨oh,kn,hms⟩:=h.kn (n:=n);obtain⟨rd,s,v,hK,hs,hrun⟩:=w8p hP kn hk;obtain⟨st',hk',_,_,hG'⟩:=h.put hs hK;have hr:=hrun w o rfl h.mem.view (fun o _ a ha=>h.mem.own _ (hms o a ha));unfold Oper.wp;rw[He,hr];show KK ((mk n f).put o.dst v) w;rw[z42];exact hKK rd st' _ w ν σ ms hk' hG' (Ext.refl _) (Sub.refl _) ⟨v,rfl⟩ (.inl rfl)
theorem y0o{o:Oper}{ban:List Nat->Bool}{k:List Nat->AS S->Prop}(h:G D cx ν0 ro st f w ν σ ms)
  (hk:wrpS (evS n ro st) o.op fun s=>putS ro st o.dst s (k [])):w51 P D cx ν0 ro st n o f w ν σ ban k:=by
 intro KK Q hKK;obtain⟨oh,kn,hms⟩:=h.kn (n:=n);obtain⟨rd,s,v,hK,hs,hrun⟩:=y7t (P:=P) kn hk;obtain⟨st',hk',_,_,hG'⟩:=h.put hs hK;have hr:=hrun w o rfl h.mem.view (fun o _ a ha=>h.mem.own _ (hms o a ha));unfold Oper.wp;rw[He,hr];show KK ((mk n f).put o.dst v) w;rw[z42];exact hKK [] st' _ w ν σ ms hk' hG' (Ext.refl _) (Sub.refl _) ⟨v,rfl⟩ (.inl rfl)
theorem j7r{ops:Array Oper}{o:Oper}{j d:Nat}{want b:Bool}(hg:o.guard=some (j,want))(hj:(ops[j]?).bind (·.dst)=some d)(hv:ev n f (.tmp d)= .bool b):Region.wanted o (yielded ops (mk n f).tmps)=(b==want):=by
 have h2:(mk n f).tmps.getD d undef= .bool b:=j4w hv;have h3:(mk n f).tmps[d]? =some (.bool b):=by
  rw[Array.getD_eq_getD_getElem?] at h2;cases hx:(mk n f).tmps[d]? with
  |none=>rw[hx] at h2;cases h2
  |some x=>rw[hx] at h2;exact congrArg some h2
 simp[Region.wanted,hg,yielded,hj,h3]
theorem v22{ops:Array Oper}{o:Oper}{j d:Nat}{want:Bool}(hg:o.guard=some (j,want))(hj:(ops[j]?).bind (·.dst)=some d)(hv:ev n f (.tmp d)=undef):Region.wanted o (yielded ops (mk n f).tmps)=false:=by
 have h2:(mk n f).tmps.getD d undef=undef:=j4w hv;have h3:(mk n f).tmps[d]? =some undef\/(mk n f).tmps[d]? =none:=by
  rw[Array.getD_eq_getD_getElem?] at h2;cases hx:(mk n f).tmps[d]? with
  |none=>right;rfl
  |some x=>rw[hx] at h2;left;exact congrArg some h2
 rcases h3 with h3|h3<;>simp[Region.wanted,hg,yielded,hj,h3,undef]
theorem G.lit{d:Nat}{b:Bool}(h:G D cx ν0 ro st f w ν σ ms)(hv:ev n f (.tmp d)= .bool b):G D cx ν0 ro {st with slots:=updS st.slots d (.lit b)} f w ν σ ms:=by
 refine⟨h.mem,h.objs,fun j=> ?_,h.fresh,h.ext,h.glob⟩;unfold q6s updS;have:=h.slots j;unfold q6s at this;cases hl:hasN ro.lock j with
 |true=>rw[hl] at this;exact this
 |false=>
  rw[hl] at this;simp only[cond_false];cases hj:Nat.beq j d with
  |false=>exact this
  |true=>
   have:=e9 hj;subst this;simp only[ev] at hv;cases hb:Nat.blt j n with
   |true=>rw[hb] at hv;simp only[cond_true] at hv;rw[hv];exact .lit b
   |false=>rw[hb] at hv;cases hv
theorem w2o{ops:Array Oper}{o:Oper}{yes no:AS S->Prop}(h:G D cx ν0 ro st f w ν σ ms)(hg:w5w n ro ops st o yes no):
  (Region.wanted o (yielded ops (mk n f).tmps)=true/\∃st1,yes st1/\st1.objs=st.objs/\G D cx ν0 ro st1 f w ν σ ms)\/(Region.wanted o (yielded ops (mk n f).tmps)=false/\∃st1,no st1/\st1.objs=st.objs/\G D cx ν0 ro st1 f w ν σ ms):=by
 unfold w5w at hg;split at hg
 .rename_i hgd;exact .inl ⟨by simp[Region.wanted,hgd],st,hg,rfl,h⟩
 .rename_i j want hgd;split at hg
  .exact hg.elim
  .rename_i d hj;have hd:=v6c (n:=n) h.slots h.glob (.tmp d)
   have two: ∀(b:Bool),ev n f (.tmp d)= .bool b->(bif b==want then yes {st with slots:=updS st.slots d (.lit b)} else no {st with slots:=updS st.slots d (.lit b)})->
     (Region.wanted o (yielded ops (mk n f).tmps)=true/\∃st1,yes st1/\st1.objs=st.objs/\G D cx ν0 ro st1 f w ν σ ms)\/(Region.wanted o (yielded ops (mk n f).tmps)=false/\∃st1,no st1/\st1.objs=st.objs/\G D cx ν0 ro st1 f w ν σ ms):=by
    intro b hv hh;rw[j7r hgd hj hv];cases hb:b==want with
    |true=>rw[hb] at hh;exact .inl ⟨rfl,_,hh,rfl,h.lit hv⟩
    |false=>rw[hb] at hh;exact .inr ⟨rfl,_,hh,rfl,h.lit hv⟩
   generalize hvd:ev n f (.tmp d)=v at hd two;generalize hsd:evS n ro st (.tmp d)=s at hd hg;cases hd with
   |lit b=>
    simp only at hg;rw[j7r hgd hj hvd];cases hb:b==want with
    |true=>rw[hb] at hg;exact .inl ⟨rfl,st,hg,rfl,h⟩
    |false=>rw[hb] at hg;exact .inr ⟨rfl,st,hg,rfl,h⟩
   |und=>exact .inr ⟨v22 hgd hj hvd,st,hg,rfl,h⟩
   |f hf=>
    cases hf with
    |bool b=>
     refine two b rfl ?_;cases b with
     |true=>
      have:=hg.1 rfl;cases want<;>exact this
     |false=>
      have:=hg.2 (by simp);cases want<;>exact this
    |_=>exact hg.elim
   |pb p dp=>
    refine two _ rfl ?_;by_cases hp:p
    .have:=hg.1 hp;simp only[hp,decide_true];cases want<;>exact this
    .have:=hg.2 hp;simp only[hp,decide_false];cases want<;>exact this
   |pbn p dp=>
    refine two _ rfl ?_;by_cases hp:p
    .have:=hg.1 hp;simp only[hp,decide_true,Bool.not_true];cases want<;>exact this
    .have:=hg.2 hp;simp only[hp,decide_false,Bool.not_false];cases want<;>exact this
   |_=>exact hg.elim
def StH(E:Ev S)(inlh:InlH S)(n:Nat)(C:Ro S->Prop):Prop:=
 ∀{cx:Cx} {ν0:Nm} {ro:Ro S} {st:AS S} {f:Fr} {w:World} {ν:Nm} {σ:Hv} {ms:List HObj} {o:Oper} {ban:List Nat->Bool} {k:List Nat->AS S->Prop},C ro->
  v2x E inlh n ro st ban o k->G E.D cx ν0 ro st f w ν σ ms->w51 E.P E.D cx ν0 ro st n o f w ν σ ban k
theorem y7z{E:Ev S}{inlh:InlH S}{C:Ro S->Prop}(hst:StH E inlh n C)(hro:C ro){ops:Array Oper}{Q:Exit->Act->World->Prop}{k:AS S->Prop}: ∀{l:List Oper} {st:AS S} {f:Fr} {w:World} {ν:Nm} {σ:Hv} {ms:List HObj},opsS E inlh n ro ops l st k->G E.D cx ν0 ro st f w ν σ ms->
  (∀st' f' w' ν' σ' ms',k st'->G E.D cx ν0 ro st' f' w' ν' σ' ms'->Q .normal (mk n f') w')->wpList E.P ops Q l (mk n f) w:=by
 intro l
 induction l with
 |nil=>intro st f w ν σ ms h hG hQ;exact hQ _ _ _ _ _ _ h hG
 |cons o l ih=>
  intro st f w ν σ ms h hG hQ;simp only[opsS] at h;unfold wpList;rcases w2o hG h with ⟨hw,st1,hy,_,hG1⟩|⟨hw,st1,hno,_,hG1⟩
  .rw[if_pos hw];exact .inl (hst hro hy hG1 _ _ fun rd st' f' w' ν' σ' ms' hk hG' _ _ _ _=>ih hk hG' hQ)
  .rw[if_neg (by rw[hw];simp),z42];obtain⟨st2,hk,_,_,hG2⟩:=hG1.put (v:=undef) .und hno;exact ih hk hG2 hQ
end Go.Fx
end
noncomputable section
namespace Go.Fx
open Go Go.RowKit Go.Fl Go.Fl.Lk
variable {S:Sig}{P:Program}{D:Shp S}{ν ν' ν0:Nm}{σ τ:Hv}{n:Nat}{f:Fr}
variable {w:World}{cx:Cx}{ro:Ro S}{st:AS S}{ms:List HObj}{ops:Array Oper}{Q:Exit->Act->World->Prop}
def Eqv(R:Nat->Prop)(w w':World):Prop:= ∀b,R b->w'.heap[b]? =w.heap[b]?
theorem Eqv.trans{R:Nat->Prop}{a b c:World}(h:Eqv R a b)(k:Eqv R b c):Eqv R a c:=fun x hx=>(k x hx).trans (h x hx)
abbrev Prot:=List (Nat×(Nat->Prop))
def wpK(P:Program)(ops:Array Oper)(Q:Exit->Act->World->Prop):Nat->Array Bool->Prot->Act->World->Prop
 |0,listed,_,a,w=>Region.ready .any ops listed=[]/\Q .normal a w
 |fuel+1,listed,prot,a,w=>(Region.ready .any ops listed=[]->Q .normal a w)/\
  ∀j∈Region.ready .any ops listed,wpOp P ops Q j (fun a' w'=>(∀q∈prot,depD ops j q.1=false->Eqv q.2 w w')/\wpK P ops Q fuel (listed.setIfInBounds j true) (prot.filter fun q=> !depD ops j q.1) a' w') a w
theorem v6g: ∀(fuel:Nat) (listed:Array Bool) (prot:Prot) (a:Act) (w:World),wpK P ops Q fuel listed prot a w->wpAny P .any ops Q fuel listed a w
 |0,_,_,_,_,h=>h
 |fuel+1,_,_,_,_,h=>⟨h.1,fun i hi=>wpOp_mono (fun a w hk=>v6g fuel _ _ a w hk.2) (h.2 i hi)⟩
theorem v1j: ∀(fuel:Nat) (listed:Array Bool) (prot prot':Prot) (a:Act) (w:World),(∀q∈prot,q∈prot')->wpK P ops Q fuel listed prot' a w->wpK P ops Q fuel listed prot a w
 |0,_,_,_,_,_,_,h=>h
 |fuel+1,_,prot,prot',_,_,hs,h=>⟨h.1,fun i hi=>wpOp_mono (fun a w hk=>⟨fun q hq=>hk.1 q (hs q hq),v1j fuel _ _ _ a w (fun q hq=>by
   simp only[List.mem_filter] at hq⊢
   exact⟨hs q hq.1,hq.2⟩) hk.2⟩) (h.2 i hi)⟩
theorem y41{j i:Nat}{oj:Oper}(hj:ops[j]? =some oj)(h: ∀e∈oj.after,Region.binds .any e=true->e.on≠i):depQ ops j i=false:=by
 unfold depQ;rw[hj];simp only[Array.any_eq_false];intro k hk;cases hb:Region.binds .any (oj.after[k]) with
 |false=>simp
 |true=>
  cases hq:Nat.beq (oj.after[k]).on i with
  |false=>simp
  |true=>exact absurd (e9 hq) (h _ (by simp) hb)
def Closed(ops:Array Oper)(l:Array Bool):Prop:= ∀j oj,ops[j]? =some oj->l.getD j false=true-> ∀e∈oj.after,Region.binds .any e=true->l.getD e.on false=true
theorem Closed.set{l:Array Bool}{j:Nat}(hc:Closed ops l)(hr:j∈Region.ready .any ops l):Closed ops (l.setIfInBounds j true):=by
 obtain⟨_,oj,hoj,hall⟩:=mem_ready.1 hr;intro k ok hk hl e he hb;refine getD_set_true ?_;by_cases hjk:j=k
 .subst hjk;rw[hoj] at hk;cases hk;exact hall e he hb
 .rw[getD_set_ne false hjk] at hl;exact hc k ok hk hl e he hb
theorem w8t{m:Nat}:Closed ops (bt m 0):=by
 intro j oj _ hl;rw[<-w8h] at hl;rcases Nat.lt_or_ge j m with h|h
 .simp[h] at hl
 .simp[Array.getElem?_eq_none (show (Array.replicate m false).size<=j by simpa using h)] at hl
theorem y70{l:Array Bool}{i k:Nat}(hi:l.getD i true=false)(hk:l.getD k false=true):k≠i:=by
 rintro rfl;rcases Nat.lt_or_ge k l.size with h'|h'
 .simp[h'] at hi hk;rw[hi] at hk;cases hk
 .simp[Array.getElem?_eq_none h'] at hk
theorem w8u{f:Nat->Bool}: ∀{l:List Nat},(∀m∈l,f m=false)->anyN f l=false
 |[],_=>rfl
 |m::l,h=>by unfold anyN;rw[h m (by simp)];exact w8u fun m hm=>h m (by simp[hm])
theorem v6h{l:Array Bool}(hc:Closed ops l){i:Nat}(hi:l.getD i true=false): ∀(k j:Nat),(∀oj,ops[j]? =some oj-> ∀e∈oj.after,Region.binds .any e=true->l.getD e.on false=true)->depT ops k j i=false:=by
 intro k;have base: ∀j,(∀oj,ops[j]? =some oj-> ∀e∈oj.after,Region.binds .any e=true->l.getD e.on false=true)->depQ ops j i=false:=by
  intro j hall;cases ho:ops[j]? with
  |none=>simp[depQ,ho]
  |some oj=>exact y41 ho fun e he hb=>y70 hi (hall oj ho e he hb)
 induction k with
 |zero=>exact base
 |succ k ih=>
  intro j hall;unfold depT;rw[base j hall];refine w8u fun m hm=>ih m fun om hom e he hb=> ?_
  unfold y2y at hm;cases ho:ops[j]? with
  |none=>rw[ho] at hm;cases hm
  |some oj=>
   rw[ho] at hm;obtain⟨e',he',rfl⟩:=List.mem_map.1 hm;obtain⟨he',hg⟩:=List.mem_filter.1 he';refine hc _ om hom (hall oj ho e' (Array.mem_toList_iff.1 he') ?_) e he hb;unfold Region.binds;split at hg
   .rename_i hgd;rw[hgd]
   .cases hg
theorem y42{l:Array Bool}(hc:Closed ops l){i:Nat}(hi:l.getD i true=false)(j:Nat)(hall: ∀oj,ops[j]? =some oj-> ∀e∈oj.after,Region.binds .any e=true->l.getD e.on false=true):depD ops j i=false:=by
 unfold depD;rw[v6h hc hi _ j hall];refine w8u fun m hm=>v6h hc hi _ m fun om hom e he hb=> ?_
 unfold v57 at hm;cases ho:ops[j]? with
 |none=>rw[ho] at hm;cases hm
 |some oj=>
  rw[ho] at hm;obtain⟨e',he',rfl⟩:=List.mem_map.1 hm;obtain⟨he',hg⟩:=List.mem_filter.1 he';refine hc _ om hom (hall oj ho e' (Array.mem_toList_iff.1 he') ?_) e he hb;unfold Region.binds;split at hg
  .rename_i hgd;rw[hgd]
  .cases hg
theorem w52{R:Nat->Prop}{w0:World}{i:Nat}{oi:Oper}{v:Value}(hi:ops[i]? =some oi)(hsel: ∀(j:Nat) (o:Oper) cs b,ops[j]? =some o->o.op≠ .select cs b)(hQ: ∀c a w,¬Q (.panic c) a w):
  ∀(fuel:Nat) (listed:Array Bool) (prot:Prot) (a:Act) (w:World),Closed ops listed->Eqv R w0 w->
   (∀j oj,ops[j]? =some oj->j≠i->listed.getD j true=false->(∀e∈oj.after,Region.binds .any e=true->e.on≠i)->oi.apart ops oj=true)->
   i∈Region.ready .any ops listed->Still P ops (Eqv R w0) i oi v a->wpK P ops Q fuel (listed.setIfInBounds i true) ((i,R)::prot) (a.put oi.dst v) w->wpK P ops Q (fuel+1) listed prot a w:=by
 have same: ∀(fuel:Nat) (listed:Array Bool) (prot:Prot) (a:Act) (w:World),Eqv R w0 w->Still P ops (Eqv R w0) i oi v a->wpK P ops Q fuel (listed.setIfInBounds i true) ((i,R)::prot) (a.put oi.dst v) w->
   wpOp P ops Q i (fun a' w'=>(∀q∈prot,depD ops i q.1=false->Eqv q.2 w w')/\wpK P ops Q fuel (listed.setIfInBounds i true) (prot.filter fun q=> !depD ops i q.1) a' w') a w:=by
  intro fuel listed prot a w hJ hy H;refine w06 (hy w hJ _ ⟨fun q _ _ b _=>rfl,v1j _ _ _ _ _ _ (fun q hq=> ?_) H⟩);exact List.mem_cons_of_mem _ (List.mem_filter.1 hq).1
 intro fuel
 induction fuel with
 |zero=>
  intro listed prot a w _ hJ _ hr hy H;refine⟨fun h=>(by rw[h] at hr;cases hr),fun j hj=> ?_⟩;by_cases hji:j=i
  .subst hji;exact same 0 listed prot a w hJ hy H
  .have:=ready_mono hj hji;rw[H.1] at this;cases this
 |succ fuel ih=>
  intro listed prot a w hcl hJ hfree hr hy H;refine⟨fun h=>(by rw[h] at hr;cases hr),fun j hj=> ?_⟩;by_cases hji:j=i
  .subst hji;exact same (fuel+1) listed prot a w hJ hy H
  .have h1:=H.2 j (ready_mono hj hji);obtain⟨hjun,oj,hoj,hall⟩:=mem_ready.1 hj;have hnot: ∀e∈oj.after,Region.binds .any e=true->e.on≠i:=fun e he hb heq=>by
    have h1:=hall e he hb;have h0:=(mem_ready.1 hr).1;rw[heq] at h1;rcases Nat.lt_or_ge i listed.size with h'|h'
    .simp[h'] at h0 h1;rw[h0] at h1;cases h1
    .simp[Array.getElem?_eq_none h'] at h1
   have hdep:depD ops j i=false:=y42 hcl (mem_ready.1 hr).1 j fun o ho=>by rw[hoj] at ho;cases ho;exact hall
   have h2:=v5a hi hoj (hfree j oj hoj hji hjun hnot) (fun cs b=>hsel i oi cs b hi) (fun cs b=>hsel j oj cs b hoj) (fun c a w h=>absurd h (hQ _ _ _)) hy h1
   have hfree': ∀k ok,ops[k]? =some ok->k≠i->(listed.setIfInBounds j true).getD k true=false->
     (∀e∈ok.after,Region.binds .any e=true->e.on≠i)->oi.apart ops ok=true:=fun k ok hk hki hun hno=>by
    refine hfree k ok hk hki ?_ hno;by_cases hjk:j=k
    .subst hjk;exact hjun
    .rw[getD_set_ne true hjk] at hun;exact hun
   refine wpOp_mono (fun a' w' h3=> ?_) h2;obtain⟨hst,hpr,hwp⟩:=h3;refine⟨fun q hq hd=>hpr q (List.mem_cons_of_mem _ hq) hd,ih (listed.setIfInBounds j true) _ a' w' (hcl.set hj) (hJ.trans (hpr (i,R) (by simp) hdep)) hfree' (ready_mono hr (Ne.symm hji)) hst ?_⟩;rw[Array.setIfInBounds_comm _ _ hji];rw[List.filter_cons_of_pos (by simp[hdep])] at hwp;exact hwp
theorem w53{m mask:Nat}{isP:Oper->Bool}: ∀{rs:List Nat} {i:Nat},v1h ops m mask isP rs=some i->i∈rs/\∃o,ops[i]? =some o/\isP o=true/\o.dst.isSome=true/\Region.free .any ops (bt m mask) i=true
 |[],_,h=>by cases h
 |x::rs,i,h=>by
  simp only[v1h] at h;split at h;case h_2=>cases h
  rename_i o ho;cases hc:(isP o && o.dst.isSome && Region.free .any ops (bt m mask) x) with
  |true=>
   rw[hc] at h;cases h;obtain⟨hc,h3⟩:=Q6 hc;obtain⟨h1,h2⟩:=Q6 hc;exact⟨by simp,o,ho,h1,h2,h3⟩
  |false=>
   rw[hc] at h;obtain⟨h1,h2⟩:=w53 h;exact⟨by simp[h1],h2⟩
theorem v1k{g:Nat->Prop}: ∀{l:List Nat},allR g l-> ∀i∈l,g i
 |[],_,i,hi=>by cases hi
 |[x],h,i,hi=>by simp at hi;subst hi;exact h
 |x::y::l,h,i,hi=>by
  rcases List.mem_cons.1 hi with rfl|hi
  .exact h.1
  .exact v1k (l:=y::l) h.2 i hi
def PR(ν:Nm)(σ:Hv)(w:World)(a:Nat×List Nat)(q:Nat×(Nat->Prop)):Prop:=
 q.1=a.1/\∀b,q.2 b->b<w.heap.size/\(σ b≠none\/ ∃o∈a.2,∃v,ν o=some v/\v6d v=some b)
def PRs(ν:Nm)(σ:Hv)(w:World)(l:List (Nat×List Nat))(l':Prot):Prop:= ∀q∈l',∃a∈l,PR ν σ w a q
theorem PRs.mono{l:List (Nat×List Nat)}{l':Prot}{w':World}(h:PRs ν σ w l l')(hn:Ext ν ν')(hs:Sub σ τ)(hw:w.heap.size<=w'.heap.size):PRs ν' τ w' l l':=fun q hq=>by
 obtain⟨a,ha,h1,h2⟩:=h q hq;refine⟨a,ha,h1,fun b hb=>⟨Nat.lt_of_lt_of_le (h2 b hb).1 hw,(h2 b hb).2.imp (fun h1 h2=> ?_) fun ⟨o,ho,v,hv,hf⟩=>⟨o,ho,v,hn _ _ hv,hf⟩⟩⟩;cases hq:σ b with
 |none=>exact h1 hq
 |some x=>rw[hs b x hq] at h2;cases h2
theorem PRs.filter{j:Nat}{l:List (Nat×List Nat)}{l':Prot}(h:PRs ν σ w l l'):PRs ν σ w (y4w ops j l) (l'.filter fun q=> !depD ops j q.1):=fun q hq=>by obtain⟨hq,hd⟩:=List.mem_filter.1 hq;obtain⟨a,ha,hp⟩:=h q hq;exact⟨a,List.mem_filter.2 ⟨ha,by rw[<-hp.1];exact hd⟩,hp⟩
theorem PRs.sub{l:List (Nat×List Nat)}{l' l'':Prot}(h:PRs ν σ w l l')(hs: ∀q∈l'',q∈l'):PRs ν σ w l l'':=fun q hq=>h q (hs q hq)
theorem v6i{t:TypeId}{e:Operand->SV S}{ob:Nat->Option (AO S)}{nx:Nat}{K:List Nat->List (Nat×AO S)->Option (SV S)->Prop}(h:Hb P D e ob nx (.alloc t) K):
  ∃a,zAO P D t=some a/\K [] [(nx,a)] (some (.ref nx 0)):=by
 simp only[Hb] at h;unfold zAO;split at h
 .rename_i T N ha;rw[ha];exact⟨_,rfl,h⟩
 .rename_i ha;rw[ha];split at h;case h_2=>exact h.elim
  rename_i z hz;rw[hz];obtain⟨hz1,h⟩:=J1 h;exact⟨_,by simp only[hz1,cond_true],h⟩
theorem v6j{t:TypeId}{a:AO S}(hP:D.OkP P)(hz:zAO P D t=some a): ∃(cs:Array Value),(∀(r:Operand->Value) (oo:Oper) (w:World),oo.op= .alloc t->(execOp r oo).run P w= .ok (.value (.pointer (some ⟨w.heap.size,0,none⟩))) (w.alloc (.cells cs t)))/\
  ∀(ν:Nm) (σ:Hv) (nx b:Nat) (lkc:Nat->Nat->SV S),ν nx=some (.pointer (some ⟨b,0,none⟩))->ORep D ν σ lkc nx a (blk b t cs.toList):=by
 unfold zAO at hz;split at hz
 .rename_i T N ha;cases hz;obtain⟨cs,hz,hE⟩:=hP.arr _ _ _ ha;exact⟨cs.toArray,fun r oo w hoo=>by simp[execOp,hoo,Instr.alloc,hz,newVar,newRow,newObj,Sem.run];try rfl,fun ν σ nx b lkc hn=>⟨_,_,hn,by simp,hE σ,by simp⟩⟩
 .split at hz;case h_2=>cases hz
  rename_i z hzi;cases hz1:z.cells.toList.all isZ with
  |false=>rw[hz1] at hz;cases hz
  |true=>
   rw[hz1] at hz;cases hz;have hzr: ∀w,(zeroValue t).run P w= .ok z w:=by intro w;obtain⟨i,hi,hz⟩:=Option.bind_eq_some_iff.1 hzi;simp[zeroValue,typeInfo,hi,hz]
   refine⟨z.cells,fun r oo w hoo=>by simp[execOp,hoo,Instr.alloc,hzr,newVar,newRow,newObj,Sem.run];try rfl,fun ν σ nx b lkc hn=>⟨_,_,hn,rfl,?_⟩⟩;have hr:=j6h (D:=D) (ν:=ν) (σ:=σ) hz1;rw[j7j hr];exact hr
structure LateOk(P:Program)(D:Shp S)(ro:Ro S)(ops:Array Oper)(i:Nat)(o:Oper)(t d:Nat):Prop where
 z: ∃a,zAO P D t=some a
 at_:ops[i]? =some o
 op:o.op= .alloc t
 dst:o.dst=some d
 lock:hasN ro.lock d=false
 guard:o.guard=none
 after:o.after.toList=[]
 only: ∀j oj,ops[j]? =some oj->oj.dst=some d->j=i
theorem v6k{i:Nat}(h:v58 P D ro ops i=true): ∃o t d,LateOk P D ro ops i o t d:=by
 unfold v58 at h;split at h;case h_2=>cases h
 rename_i o ho;split at h;case h_2=>cases h
 rename_i t d hop hd;obtain⟨h,h4⟩:=Q6 h;obtain⟨h,h3⟩:=Q6 h;obtain⟨h,h2⟩:=Q6 h;obtain⟨h0,h1⟩:=Q6 h;refine⟨o,t,d,Option.isSome_iff_exists.1 h0,ho,hop,hd,by simpa using h1,by simpa using h2,List.isEmpty_iff.1 h3,fun j oj hj hdj=> ?_⟩;have hlt:j<ops.size:=by
  rcases Nat.lt_or_ge j ops.size with h'|h'
  .exact h'
  .rw[Array.getElem?_eq_none h'] at hj;cases hj
 have:=List.all_eq_true.1 h4 j (List.mem_range.2 hlt);rw[hj] at this;simp only[Option.bind_some,hdj] at this;rcases Bool.or_eq_true_iff.1 this with e|e
 .exact e9 e
 .simp at e
def Lts(P:Program)(D:Shp S)(ro:Ro S)(ops:Array Oper)(L:List Nat):Prop:= ∀i∈L,∃o t d,LateOk P D ro ops i o t d
theorem j6j{l:List Nat}{x:Nat}:hasN l x=true↔x∈l:=by
 induction l with
 |nil=>simp[hasN]
 |cons a l ih=>
  unfold hasN;cases h:Nat.beq a x with
  |true=>simp[e9 h]
  |false=>
   rw[cond_false,ih,List.mem_cons];refine⟨.inr,fun h'=>h'.resolve_left fun e=> ?_⟩;subst e;simp at h
theorem j3a{L:List Nat}: ∀{st:AS S},(j26 ops L st).objs=st.objs/\(j26 ops L st).next=st.next/\∀j,(j26 ops L st).slots j=st.slots j\/(j26 ops L st).slots j= .dead:=by
 induction L with
 |nil=>exact⟨rfl,rfl,fun _=> .inl rfl⟩
 |cons i L ih=>
  intro st;unfold j26;split
  .rename_i d _;split
   .exact ih
   .obtain⟨h1,h2,h3⟩:=ih (st:={st with slots:=updS st.slots d .dead});refine⟨h1,h2,fun j=> ?_⟩;rcases h3 j with e|e
    .rw[e];show (bif Nat.beq j d then SV.dead else st.slots j)=st.slots j\/(bif Nat.beq j d then SV.dead else st.slots j)= .dead;cases Nat.beq j d with
     |true=>exact .inr rfl
     |false=>exact .inl rfl
    .exact .inr e
  .exact ih
theorem z7a{L:List Nat}: ∀{st:AS S} {i:Nat} {o:Oper} {d:Nat},i∈L->ops[i]? =some o->o.dst=some d->(j26 ops L st).slots d= .dead:=by
 induction L with
 |nil=>intro st i o d hi;cases hi
 |cons x L ih=>
  intro st i o d hi ho hd;rcases List.mem_cons.1 hi with rfl|hi
  .unfold j26;rw[ho];simp only[Option.bind_some,hd];split
   .rename_i hdead;rcases (j3a (ops:=ops) (L:=L) (st:=st)).2.2 d with e|e
    .rw[e];exact hdead
    .exact e
   .rcases (j3a (ops:=ops) (L:=L) (st:={st with slots:=updS st.slots d .dead})).2.2 d with e|e
    .rw[e];simp[updS]
    .exact e
  .unfold j26;split
   .split
    .exact ih hi ho hd
    .exact ih hi ho hd
   .exact ih hi ho hd
theorem G.dead{L:List Nat}(h:G D cx ν0 ro st f w ν σ ms):G D cx ν0 ro (j26 ops L st) f w ν σ ms:=by
 obtain⟨h1,h2,h3⟩:=j3a (ops:=ops) (L:=L) (st:=st);refine⟨h.mem,by rw[h1];exact h.objs,fun j=> ?_,by rw[h2];exact h.fresh,h.ext,h.glob⟩;have:=h.slots j;unfold q6s at this⊢;cases hl:hasN ro.lock j with
 |true=>rw[hl] at this;exact this
 |false=>
  rw[hl] at this;simp only[cond_false] at this⊢;rcases h3 j with e|e
  .rw[e];exact this
  .rw[e];exact .dead _
theorem v6l{m k j:Nat}:(bt m k).getD j false=true↔j<m/\k.testBit j=true:=by
 rcases Nat.lt_or_ge j m with h|h
 .simp[bt,h]
 .simp[bt,show ¬j<m by omega]
theorem v6m{m mask i j:Nat}:(bt m (mask|||1<<<i)).getD j false=true↔(bt m mask).getD j false=true\/(j<m/\j=i):=by
 have hb:(1<<<i).testBit j=true↔i=j:=by rw[Nat.one_shiftLeft];simp[Nat.testBit_two_pow]
 rw[v6l,v6l,Nat.testBit_or,Bool.or_eq_true,hb];constructor
 .rintro⟨h,e|e⟩
  .exact .inl ⟨h,e⟩
  .exact .inr ⟨h,e.symm⟩
 .rintro (⟨h,e⟩|⟨h,e⟩)
  .exact⟨h,.inl e⟩
  .exact⟨h,.inr e.symm⟩
theorem v6n{m:Nat}{L:List Nat}: ∀{mask j:Nat},(bt m (orL mask L)).getD j false=true↔(bt m mask).getD j false=true\/(j<m/\j∈L):=by
 induction L with
 |nil=>intro mask j;simp[orL]
 |cons i L ih=>
  intro mask j;rw[orL,ih,v6m,List.mem_cons];constructor
  .rintro ((h|⟨h,e⟩)|⟨h,e⟩)
   .exact .inl h
   .exact .inr ⟨h,.inl e⟩
   .exact .inr ⟨h,.inr e⟩
  .rintro (h|⟨h,e|e⟩)
   .exact .inl (.inl h)
   .exact .inl (.inr ⟨h,e⟩)
   .exact .inr ⟨h,e⟩
theorem j4y{l:Array Bool}{j:Nat}:l.getD j true=false↔j<l.size/\ ¬l.getD j false=true:=by
 rcases Nat.lt_or_ge j l.size with h|h
 .simp[h]
 .simp[Array.getElem?_eq_none h];omega
def unl(l:Array Bool):Nat:=(List.range l.size).countP fun j=> !l.getD j false
theorem v1l{p q:Nat->Bool}{j:Nat}: ∀{l:List Nat},(∀x,p x=true->q x=true)->j∈l->q j=true->p j=false->l.countP p<l.countP q
 |[],_,h,_,_=>by cases h
 |a::l,hpq,h,h1,h2=>by
  have hle:l.countP p<=l.countP q:=List.countP_mono_left fun x _ hx=>hpq x hx
  by_cases ha:a=j
  .subst ha;rw[List.countP_cons_of_neg (by simp[h2]),List.countP_cons_of_pos h1];omega
  .have:=v1l (l:=l) hpq ((List.mem_cons.1 h).resolve_left fun e=>ha e.symm) h1 h2;by_cases hp:p a=true
   .rw[List.countP_cons_of_pos hp,List.countP_cons_of_pos (hpq a hp)];omega
   .rw[List.countP_cons_of_neg hp];by_cases hq:q a=true
    .rw[List.countP_cons_of_pos hq];omega
    .rw[List.countP_cons_of_neg hq];exact this
theorem j3b{l:Array Bool}{j:Nat}(h:l.getD j true=false):unl (l.setIfInBounds j true)<unl l:=by
 obtain⟨h1,h2⟩:=j4y.1 h;unfold unl;rw[Array.size_setIfInBounds];refine v1l (j:=j) (fun x hx=> ?_) (List.mem_range.2 h1) (by simpa using h2) ?_
 .cases hq:l.getD x false with
  |false=>rfl
  |true=>rw[getD_set_true hq] at hx;cases hx
 .simp[h1]
structure Lst(m mask:Nat)(L:List Nat)(pend:List Nat)(lc:Array Bool):Prop where
 size:lc.size=m
 at_: ∀j,lc.getD j false=true↔(bt m mask).getD j false=true\/j∈pend
 sub: ∀i∈pend,i∈L
 not: ∀i∈L,i<m/\ ¬(bt m mask).getD i false=true
 one:L.Nodup
 pone:pend.Nodup
variable {m mask fuel:Nat}{L pend:List Nat}{lc:Array Bool}
theorem Lst.un(h:Lst m mask L pend lc){j:Nat}:lc.getD j true=false↔(bt m mask).getD j true=false/\j∉pend:=by
 rw[j4y,j4y,h.size,show (bt m mask).size=m by simp[bt],h.at_];constructor
 .rintro⟨a,b⟩;exact⟨⟨a,fun c=>b (.inl c)⟩,fun c=>b (.inr c)⟩
 .rintro⟨⟨a,b⟩,c⟩;exact⟨a,fun d=>d.elim b c⟩
theorem Lst.up(h:Lst m mask L pend lc){j:Nat}(hj:j∈Region.ready .any ops (bt m mask))(hn:j∉L):j∈Region.ready .any ops lc:=by obtain⟨h1,o,ho,hall⟩:=mem_ready.1 hj;exact mem_ready.2 ⟨h.un.2 ⟨h1,fun hp=>hn (h.sub j hp)⟩,o,ho,fun e he hb=>(h.at_ _).2 (.inl (hall e he hb))⟩
theorem Lst.down(h:Lst m mask L pend lc){j:Nat}{L':List Nat}(hj:j∈Region.ready .any ops lc)(hn:j∉L')(hs: ∀i∈pend,i∈L'):j∈Region.ready .any ops (bt m (orL mask L')):=by
 obtain⟨h1,o,ho,hall⟩:=mem_ready.1 hj;obtain⟨h2,h3⟩:=h.un.1 h1;obtain⟨h4,h5⟩:=j4y.1 h2;have h4:j<m:=by simpa [bt] using h4
 refine mem_ready.2 ⟨j4y.2 ⟨by simpa [bt] using h4,fun hx=> ?_⟩,o,ho,fun e he hb=>v6n.2 ?_⟩
 .rcases v6n.1 hx with hx|hx
  .exact h5 hx
  .exact hn hx.2
 .rcases (h.at_ _).1 (hall e he hb) with hx|hx
  .exact .inl hx
  .exact .inr ⟨(h.not _ (h.sub _ hx)).1,hs _ hx⟩
theorem Lst.same(h:Lst m mask L pend lc)(hp:pend=[]){j:Nat}(hj:j∈Region.ready .any ops lc):j∈Region.ready .any ops (bt m mask):=by have:=h.down (L':=[]) hj (by simp) (by simp[hp]);exact this
theorem Lst.set(h:Lst m mask L pend lc){j:Nat}(hj:j<m)(hn:j∉L):Lst m (mask|||1<<<j) L pend (lc.setIfInBounds j true):=by
 refine⟨by simp[h.size],fun x=> ?_,h.sub,fun i hi=>⟨(h.not i hi).1,fun hx=> ?_⟩,h.one,h.pone⟩
 .rw[v6m];by_cases hx:j=x
  .subst hx;simp[h.size,hj]
  .rw[getD_set_ne false hx,h.at_];constructor
   .rintro (a|a)
    .exact .inl (.inl a)
    .exact .inr a
   .rintro ((a|⟨_,a⟩)|a)
    .exact .inl a
    .exact absurd a.symm hx
    .exact .inr a
 .rcases v6m.1 hx with a|⟨_,a⟩
  .exact (h.not i hi).2 a
  .exact hn (a▸hi)
theorem Lst.early(h:Lst m mask L pend lc){j:Nat}(hj:j∈L)(hn:j∉pend):Lst m mask L (j::pend) (lc.setIfInBounds j true):=by
 have hm:=(h.not j hj).1;refine⟨by simp[h.size],fun x=> ?_,fun i hi=> ?_,h.not,h.one,List.nodup_cons.2 ⟨hn,h.pone⟩⟩
 .by_cases hx:j=x
  .subst hx;simp[h.size,hm]
  .rw[getD_set_ne false hx,h.at_,List.mem_cons];constructor
   .rintro (a|a)
    .exact .inl a
    .exact .inr (.inr a)
   .rintro (a|a|a)
    .exact .inl a
    .exact absurd a.symm hx
    .exact .inr a
 .rcases List.mem_cons.1 hi with rfl|hi
  .exact hj
  .exact h.sub i hi
theorem Lst.name{i:Nat}(h:Lst m mask (i::L) pend lc){pend':List Nat}(hp:pend.Perm (i::pend')):Lst m (mask|||1<<<i) L pend' lc:=by
 have hn:=List.nodup_cons.1 h.one;have hpn:=List.nodup_cons.1 (hp.nodup_iff.1 h.pone);refine⟨h.size,fun x=> ?_,fun x hx=> ?_,fun x hx=>⟨(h.not x (by simp[hx])).1,fun hb=> ?_⟩,hn.2,hpn.2⟩
 .rw[h.at_,v6m,hp.mem_iff,List.mem_cons];have hm:=(h.not i (by simp)).1;constructor
  .rintro (a|rfl|a)
   .exact .inl (.inl a)
   .exact .inl (.inr ⟨hm,rfl⟩)
   .exact .inr a
  .rintro ((a|⟨_,a⟩)|a)
   .exact .inl a
   .exact .inr (.inl a)
   .exact .inr (.inr a)
 .have:=h.sub x (hp.mem_iff.2 (by simp[hx]));exact (List.mem_cons.1 this).resolve_left fun e=>hpn.1 (e▸hx)
 .rcases v6m.1 hb with a|⟨_,a⟩
  .exact (h.not x (by simp[hx])).2 a
  .exact hn.1 (a▸hx)
theorem y71{a b:Nat}(h:a≠b):Nat.beq a b=false:=by
 cases hq:Nat.beq a b with
 |false=>rfl
 |true=>exact absurd (e9 hq) h
def Pnd(P:Program)(D:Shp S)(ro:Ro S)(ops:Array Oper)(f:Fr)(q:Nat×HObj):Prop:=
 ∃o t d b a,LateOk P D ro ops q.1 o t d/\f d= .pointer (some ⟨b,0,none⟩)/\zAO P D t=some a/\
  ∀(ν:Nm) (σ:Hv) (nx:Nat) (lkc:Nat->Nat->SV S),ν nx=some (.pointer (some ⟨b,0,none⟩))->ORep D ν σ lkc nx a q.2
theorem Pnd.put{q:Nat×HObj}(h:Pnd P D ro ops f q){j:Nat}{o:Oper}{v:Value}(ho:ops[j]? =some o)(hj:j≠q.1):Pnd P D ro ops (putF f o.dst v) q:=by
 obtain⟨o',t,d,b,a,hl,hf,h⟩:=h;refine⟨o',t,d,b,a,hl,?_,h⟩;unfold putF;cases hd:o.dst with
 |none=>exact hf
 |some d'=>
  have hne:d≠d':=fun e=>hj (hl.only j o ho (by rw[hd,e]))
  show (bif Nat.beq d d' then v else f d)=_;rw[y71 hne];exact hf
structure Gp(P:Program)(D:Shp S)(cx:Cx)(ν0:Nm)(ro:Ro S)(ops:Array Oper)(st:AS S)(f:Fr)(w:World)(ν:Nm)(σ:Hv)(ms:List HObj)(pl:List (Nat×HObj)):Prop where
 g:G D ⟨w,σ,feet ms⟩ ν0 ro st f w ν σ ms
 mem:St cx w σ (ms++pl.map (·.2))
 pnd: ∀q∈pl,Pnd P D ro ops f q
theorem w8v{fuel:Nat}{a:Act}{prot:Prot}(h:Region.ready .any ops lc=[])(hq:Q .normal a w):wpK P ops Q fuel lc prot a w:=by
 cases fuel with
 |zero=>exact⟨h,hq⟩
 |succ n=>exact⟨fun _=>hq,fun j hj=>by rw[h] at hj;cases hj⟩
theorem v6o{o:Oper}{d:Nat}(hd:o.dst=some d):putF f o.dst (f d)=f:=by
 rw[hd];funext j;show (bif Nat.beq j d then f d else f j)=f j;cases h:Nat.beq j d with
 |true=>rw[e9 h];rfl
 |false=>rfl
theorem y43{E:Ev S}{inlh:InlH S}{C:Ro S->Prop}(hP:E.D.OkP E.P)(hst:StH E inlh n C)(hro:C ro)(hsel:Region.noSelect ops=true)(hQ: ∀c a w,¬Q (.panic c) a w){m:Nat}{k:AS S->Prop}:
  ∀{N fuel fuelc mask:Nat} {L:List Nat} {pa:List (Nat×List Nat)} {prot:Prot} {st:AS S} {f:Fr} {w:World} {ν:Nm} {σ:Hv} {ms:List HObj} {pl:List (Nat×HObj)} {lc:Array Bool},fuel+fuelc<=N->unl lc<=fuelc->Closed ops lc->
  Lst m mask L (pl.map (·.1)) lc->Lts E.P E.D ro ops L->(∀i∈L,∀o d,ops[i]? =some o->o.dst=some d->st.slots d= .dead)->j93 E inlh n ro ops m k fuel L mask pa st->Gp E.P E.D cx ν0 ro ops st f w ν σ ms pl->PRs ν σ w pa prot->
  (∀st' f' w' ν' σ' ms',k st'->G E.D cx ν0 ro st' f' w' ν' σ' ms'->Q .normal (mk n f') w')->wpK E.P ops Q fuelc lc prot (mk n f) w:=by
 intro N
 induction N with
 |zero=>
  intro fuel fuelc mask L pa prot st f w ν σ ms pl lc hN hun hcl hls hL hdead h hG hpr hk;have hz:fuel=0:=by omega
  subst hz;simp only[j93] at h;obtain⟨h1,h2⟩:=J1 h;obtain⟨h1,h3⟩:=Q6 h1;have hLe:=List.isEmpty_iff.1 h1;have hple:pl=[]:=by
   cases pl with
   |nil=>rfl
   |cons q pl=>have:=hls.sub q.1 (by simp);rw[hLe] at this;cases this
  subst hple;refine w8v (List.eq_nil_iff_forall_not_mem.2 fun j hj=> ?_) (hk _ _ _ _ _ _ h2 ⟨by simpa using hG.mem,hG.g.objs,hG.g.slots,hG.g.fresh,hG.g.ext,hG.g.glob⟩);have:=hls.same rfl hj;rw[List.isEmpty_iff.1 h3] at this;cases this
 |succ N ih=>
  intro fuel fuelc mask L pa prot st f w ν σ ms pl lc hN hun hcl hls hL hdead h hG hpr hk;have hGcx:pl=[]->G E.D cx ν0 ro st f w ν σ ms:=fun e=>by subst e;exact⟨by simpa using hG.mem,hG.g.objs,hG.g.slots,hG.g.fresh,hG.g.ext,hG.g.glob⟩
  have hplL:L=[]->pl=[]:=fun e=>by
   cases pl with
   |nil=>rfl
   |cons q pl=>have:=hls.sub q.1 (by simp);rw[e] at this;cases this
  have early: ∀{c:Nat},fuelc=c+1-> ∀j∈Region.ready .any ops lc,j∈L->
    wpOp E.P ops Q j (fun a' w'=>(∀q∈prot,depD ops j q.1=false->Eqv q.2 w w')/\wpK E.P ops Q c (lc.setIfInBounds j true) (prot.filter fun q=> !depD ops j q.1) a' w') (mk n f) w:=by
   intro c hc j hj hjL;obtain⟨hjun,_⟩:=mem_ready.1 hj;have hjp:j∉pl.map (·.1):=(hls.un.1 hjun).2;obtain⟨o,t,d,hlt⟩:=hL j hjL;have hs:=hdead j hjL o d hlt.at_ hlt.dst;obtain⟨a,hz⟩:=hlt.z;obtain⟨cs,hrun,hrep⟩:=v6j hP hz;unfold wpOp;simp only[hlt.at_];have hw:Region.wanted o (yielded ops (mk n f).tmps)=true:=by simp[Region.wanted,hlt.guard]
   rw[if_pos hw];left;unfold Oper.wp;rw[He,hrun _ o w hlt.op];have hput:(mk n f).put o.dst (.pointer (some ⟨w.heap.size,0,none⟩))=mk n (putF f o.dst (.pointer (some ⟨w.heap.size,0,none⟩))):=z42 _ _;show (∀q∈prot,depD ops j q.1=false->Eqv q.2 w (w.alloc (.cells cs t)))/\wpK E.P ops Q c (lc.setIfInBounds j true) (prot.filter fun q=> !depD ops j q.1) ((mk n f).put o.dst _) (w.alloc (.cells cs t));have hkp:Keeps [] w (w.alloc (.cells cs t)):=Wb w _;refine⟨fun q hq _ b hb=> ?_,?_⟩
   .obtain⟨a',_,_,h2⟩:=hpr q hq;exact hkp.block b (h2 b hb).1 (by simp)
   .rw[hput]
    have hmem:St cx (w.alloc (.cells cs t)) σ (ms++((j,blk w.heap.size t cs.toList)::pl).map (·.2)):=
     (q75 hG.mem t cs).perm (by simpa using List.perm_middle.symm)
    refine ih (fuel:=fuel) (fuelc:=c) (by omega) (by have:=j3b hjun;omega) (hcl.set hj) (pl:=(j,blk w.heap.size t cs.toList)::pl) (hls.early hjL hjp) hL hdead h
     ⟨⟨hmem.inner,hG.g.objs,fun x=> ?_,hG.g.fresh,hG.g.ext,hG.g.glob⟩,hmem,fun q hq=> ?_⟩ ((hpr.mono (Ext.refl _) (Sub.refl _) hkp.size).sub fun q hq=>(List.mem_filter.1 hq).1) hk
    .have hx:=hG.g.slots x;rw[hlt.dst];show SRep E.D ν σ (bif Nat.beq x d then _ else f x) _;cases hxd:Nat.beq x d with
     |true=>
      rw[e9 hxd];unfold q6s;rw[hlt.lock,cond_false,hs];exact .dead _
     |false=>exact hx
    .rcases List.mem_cons.1 hq with rfl|hq
     .refine⟨o,t,d,w.heap.size,a,hlt,?_,hz,fun ν σ nx lkc hn=>hrep ν σ nx _ lkc hn⟩;rw[hlt.dst];show (bif Nat.beq d d then _ else f d)=_;simp
     .exact (hG.pnd q hq).put hlt.at_ fun e=>hjp (e▸List.mem_map.2 ⟨q,hq,rfl⟩)
  have stop:Region.ready .any ops lc=[]-> ∀i∈L,i∈pl.map (·.1):=fun hr i hi=>by
   refine Classical.byContradiction fun hn=> ?_
   obtain⟨o,t,d,hlt⟩:=hL i hi
   have:i∈Region.ready .any ops lc:=mem_ready.2 ⟨hls.un.2 ⟨j4y.2 ⟨by simpa [bt] using (hls.not i hi).1,(hls.not i hi).2⟩,hn⟩,o,hlt.at_,fun e he _=>by
    have:=Array.mem_toList_iff.2 he
    rw[hlt.after] at this;cases this⟩
   rw[hr] at this;cases this
  have pos: ∀j∈Region.ready .any ops lc,∃c,fuelc=c+1:=fun j hj=>by have:=j3b (mem_ready.1 hj).1;exact⟨fuelc - 1,by omega⟩
  cases fuel with
  |zero=>
   simp only[j93] at h;obtain⟨h1,h2⟩:=J1 h;obtain⟨h1,h3⟩:=Q6 h1;have hple:=hplL (List.isEmpty_iff.1 h1);refine w8v (List.eq_nil_iff_forall_not_mem.2 fun j hj=> ?_) (hk _ _ _ _ _ _ h2 (hGcx hple));have:=hls.same (by rw[hple];rfl) hj;rw[List.isEmpty_iff.1 h3] at this;cases this
  |succ fuel=>
   simp only[j93] at h;split at h
   .rename_i hne;have hnone: ∀j,j∈Region.ready .any ops (bt m mask)->j∈L:=fun j hj=>by
     refine Classical.byContradiction fun hn=> ?_
     have:j∈notL L (Region.ready .any ops (bt m mask)):=List.mem_filter.2 ⟨hj,by
      cases hh:hasN L j with
      |false=>rfl
      |true=>exact absurd (j6j.1 hh) hn⟩
     rw[hne] at this;cases this
    split at h
    .
     have hple:=hplL rfl;refine w8v (List.eq_nil_iff_forall_not_mem.2 fun j hj=> ?_) (hk _ _ _ _ _ _ h (hGcx hple));have:=hnone j (hls.same (by rw[hple];rfl) hj);cases this
    .
     rename_i i L';obtain⟨hall,h⟩:=J1 h;by_cases hi:i∈pl.map (·.1)
     .obtain⟨q,hq,rfl⟩:=List.mem_map.1 hi;obtain⟨pl1,pl2,rfl⟩:=List.append_of_mem hq;obtain⟨o,t,d,b,a,hlt,hf,hz,hrep⟩:=hG.pnd q hq;rw[hlt.at_] at h;simp only at h;unfold v2x at h;rw[hlt.op] at h;simp only[v2w,cond_true] at h;obtain⟨a',hz',h⟩:=v6i h;rw[hz] at hz';cases hz';simp only[inRw,y4v,Bool.and_self,cond_true,z41,q1p] at h;have hfr:=hG.g.fresh st.next (Nat.le_refl _);let ν2:=ν.add st.next (.pointer (some ⟨b,0,none⟩));have hx:Ext ν ν2:=Nm.add_ext hfr
      have hmem:St cx w σ ((q.2::ms)++(pl1++pl2).map (·.2)):=hG.mem.perm (by
       simp only[List.map_append,List.map_cons,List.cons_append];rw[<-List.append_assoc]
       exact List.perm_middle.trans (by rw[List.append_assoc]))
      have hG2:G E.D ⟨w,σ,feet (q.2::ms)⟩ ν0 ro {slots:=st.slots,objs:=(st.next,a)::st.objs,next:=st.next+1} f w ν2 σ (q.2::ms):=
       ⟨hmem.inner,⟨hrep _ _ _ _ Nm.add_self,hG.g.objs.mono hx (Sub.refl _)⟩,fun j=>(hG.g.slots j).mono hx (Sub.refl _),fun x hx2=>by
        show Nm.add ν st.next _ x=none;unfold Nm.add;rw[if_neg (by intro e;simp only at hx2;omega)]
        exact hG.g.fresh x (by simp only at hx2;omega),hG.g.ext.trans hx,hG.g.glob⟩
      have hs:SRep E.D ν2 σ (f d) (.ref st.next 0):=by rw[hf];exact .ref _ _ _ Nm.add_self
      obtain⟨st',hk',ho',hn',hG'⟩:=hG2.put (d:=o.dst) hs h;rw[v6o hlt.dst] at hG';rw[q6t] at hk';have hsub: ∀x∈L',x∈q.1::L':=fun x hx=>by simp[hx]
      refine ih (fuel:=fuel) (fuelc:=fuelc) (by omega) hun hcl (pl:=pl1++pl2) (hls.name (by simp only[List.map_append,List.map_cons];exact List.perm_middle)) (fun x hx=>hL x (hsub x hx)) (fun x hx o d ho hd=>z7a hx ho hd) hk'
       ⟨hG'.dead,hmem,fun p hp=>hG.pnd p (by rcases List.mem_append.1 hp with e|e<;>simp[e])⟩ (hpr.mono hx (Sub.refl _) (Nat.le_refl _)) hk
     .
      have hir:i∈Region.ready .any ops lc:=Classical.byContradiction fun hn=>by
       obtain⟨o,t,d,hlt⟩:=hL i (by simp)
       exact hn (mem_ready.2 ⟨hls.un.2 ⟨j4y.2 ⟨by simpa [bt] using (hls.not i (by simp)).1,(hls.not i (by simp)).2⟩,hi⟩,o,hlt.at_,fun e he _=>by
        have:=Array.mem_toList_iff.2 he
        rw[hlt.after] at this;cases this⟩)
      obtain⟨c,hc⟩:=pos i hir;subst hc;refine⟨fun hr=>(by rw[hr] at hir;cases hir),fun j hj=>early rfl j hj ?_⟩;refine Classical.byContradiction fun hn=>hn ?_
      have hd:=hls.down (L':=L') hj (fun hx=>hn (by simp[hx])) fun x hx=>(List.mem_cons.1 (hls.sub x hx)).resolve_left fun e=>hi (e▸hx)
      have:=e9 (List.all_eq_true.1 hall j hd);simp[this]
   .rename_i hne;have hin: ∀j∈notL L (Region.ready .any ops (bt m mask)),j∈Region.ready .any ops (bt m mask)/\j∉L:=fun j hj=>by obtain⟨h1,h2⟩:=List.mem_filter.1 hj;exact⟨h1,fun hx=>by rw[j6j.2 hx] at h2;cases h2⟩
    have hmlt: ∀j∈Region.ready .any ops lc,j<m:=fun j hj=>by
     have:=(j4y.1 (mem_ready.1 hj).1).1
     rwa [hls.size] at this
    have keepF: ∀{i:Nat} {o:Oper} {v:Value},ops[i]? =some o->i∉L-> ∀q∈pl,Pnd E.P E.D ro ops (putF f o.dst v) q:=fun ho hi q hq=>
     (hG.pnd q hq).put ho fun e=>hi (hls.sub _ (e▸List.mem_map.2 ⟨q,hq,rfl⟩))
    split at h
    .
     rename_i i hfirst;obtain⟨hi,o,ho,_,hdst,hfree⟩:=w53 hfirst;obtain⟨hi,hiL⟩:=hin i hi;have hir:=hls.up hi hiL;obtain⟨c,hc⟩:=pos i hir;subst hc
     have hfree': ∀j oj,ops[j]? =some oj->j≠i->lc.getD j true=false->(∀e∈oj.after,Region.binds .any e=true->e.on≠i)->o.apart ops oj=true:=
      fun j oj hj hne hu hno=>Region.free_spec ho hfree j oj hj hne (hls.un.1 hu).1 hno
     rw[ho] at h;simp only at h;rcases w2o hG.g h with ⟨hw,st1,hy,_,hG1⟩|⟨hw,st1,hno,_,hG1⟩
     .
      cases hc:(v2w (lzE E o) (obS ro st1) (evS n ro st1) o.op||v56 o.op) with
      |true=>rw[hc] at hy;exact hy.elim
      |false=>
       rw[hc] at hy;simp only[cond_false] at hy;obtain⟨oh,kn,hms⟩:=hG1.kn (n:=n);obtain⟨rd,s,v,hK,hs,hrun⟩:=w8p hP kn hy;obtain⟨st',hk',_,_,hG'⟩:=hG1.put hs hK;rw[q6t] at hk';let R:Nat->Prop:=fun b=>σ b≠none\/ ∃o∈rd,∃a,obS ro st1 o=some a/\(oh o).foot=some b
       have hRlt: ∀b,R b->b<w.heap.size:=fun b hb=>by
        rcases hb with hb|⟨o',_,a,ha,hb⟩
        .cases hq:σ b with
         |none=>exact absurd hq hb
         |some x=>exact lt_of_block (hG1.mem.view b x hq)
        .exact (oh o').lt w b (hG1.mem.own _ (hms o' a ha)) hb
       refine w52 (R:=R) (w0:=w) ho (Region.noSelect_spec hsel) hQ c _ prot _ w hcl (fun b _=>rfl) hfree' hir (v:=v) ?_ ?_
       .intro w' hE K' hK';unfold wpOp;simp only[ho,if_pos hw];left;have hV:View σ w':=fun b ob hb=>by rw[hE b (.inl (by rw[hb];simp))];exact hG1.mem.view b ob hb
        have hr:=hrun w' o rfl hV (fun o' ho' a ha=>(oh o').stay w w' (fun b hb=>hE b (.inr ⟨o',ho',a,ha,hb⟩)) (hG1.mem.own _ (hms o' a ha)));unfold Oper.wp;rw[He,hr];exact hK'
       .rw[z42];refine ih (fuel:=fuel) (fuelc:=c) (by omega) (by have:=j3b (mem_ready.1 hir).1;omega) (hcl.set hir) (hls.set (hmlt i hir) hiL) hL (fun x hx o d ho hd=>z7a hx ho hd) hk' ⟨hG'.dead,hG.mem,keepF ho hiL⟩ ?_ hk;intro q hq;rcases List.mem_cons.1 hq with rfl|hq
        .refine⟨(i,rd),by simp,rfl,fun b hb=>⟨hRlt b hb,hb.imp id fun ⟨o',ho',a,ha,hf⟩=> ?_⟩⟩;obtain⟨v',hv',hvf⟩:=(kn.o o' a ha).1.foot (kn.o o' a ha).2 hf;exact⟨o',ho',v',hv',hvf⟩
        .obtain⟨a,ha,hp⟩:=hpr q hq;exact⟨a,by simp[ha],hp⟩
     .
      obtain⟨st',hk',_,_,hG'⟩:=hG1.put (v:=undef) .und hno;rw[q6t] at hk';refine w52 (R:=fun _=>False) (w0:=w) ho (Region.noSelect_spec hsel) hQ c _ prot _ w hcl (fun b _=>rfl) hfree' hir (v:=undef) ?_ ?_
      .intro w' hE K' hK';unfold wpOp;simp only[ho,hw,Bool.false_eq_true,if_false];exact hK'
      .rw[z42];refine ih (fuel:=fuel) (fuelc:=c) (by omega) (by have:=j3b (mem_ready.1 hir).1;omega) (hcl.set hir) (hls.set (hmlt i hir) hiL) hL (fun x hx o d ho hd=>z7a hx ho hd) hk' ⟨hG'.dead,hG.mem,keepF ho hiL⟩ ?_ hk;intro q hq;rcases List.mem_cons.1 hq with rfl|hq
       .exact⟨(i,[]),by simp,rfl,fun b hb=>hb.elim⟩
       .obtain⟨a,ha,hp⟩:=hpr q hq;exact⟨a,by simp[ha],hp⟩
    .
     obtain⟨hall,h⟩:=J1 h;cases hrs:notL L (Region.ready .any ops (bt m mask)) with
     |nil=>exact absurd hrs hne
     |cons i0 rs0=>
      have hi0:=hin i0 (by rw[hrs];simp);obtain⟨c,hc⟩:=pos i0 (hls.up hi0.1 hi0.2);subst hc;refine⟨fun hr=>(by have:=hls.up hi0.1 hi0.2;rw[hr] at this;cases this),fun j hj=> ?_⟩;by_cases hjL:j∈L
      .exact early rfl j hj hjL
      have hjr:j∈notL L (Region.ready .any ops (bt m mask)):=by
       rcases Bool.or_eq_true_iff.1 hall with e|e
       .have hL0:=List.isEmpty_iff.1 e;have:=hls.same (by rw[hplL hL0];rfl) hj
        exact List.mem_filter.2 ⟨this,by
         cases hh:hasN L j with
         |false=>rfl
         |true=>exact absurd (j6j.1 hh) hjL⟩
       .exact j6j.1 (List.all_eq_true.1 e j (hls.down hj hjL hls.sub))
      have h1:=v1k h j hjr;cases ho:ops[j]? with
      |none=>rw[ho] at h1;exact h1.elim
      |some o=>
       rw[ho] at h1;simp only at h1;unfold wpOp;simp only[ho];rcases w2o hG.g h1 with ⟨hw,st1,hy,hobj,hG1⟩|⟨hw,st1,hno,_,hG1⟩
       .rw[if_pos hw];left;refine hst hro hy hG1 _ _ fun rd st' f' w' ν' σ' ms' hk' hG' hext hsub hf' hleft=>⟨fun q hq hd=> ?_,?_⟩
        .obtain⟨a,ha,hpa⟩:=hpr q hq;intro b hb;rcases (hpa.2 b hb).2 with hσ|⟨o',ho',v,hv,hvf⟩
         .cases hq:σ b with
          |none=>exact absurd hq hσ
          |some x=>rw[hG'.mem.view b x (hsub b x hq),hG.mem.view b x hq]
         .rcases hleft with rfl|⟨tl,hban,hl⟩
          .rfl
          .have hba:=List.all_eq_true.1 hban a ha;rw[<-hpa.1,hd,Bool.false_or] at hba;have hbo:=List.all_eq_true.1 hba o' ho';obtain⟨h5,h6⟩:=Q6 hbo;have hno:o'∉tl:=z67 (by simpa using h5);cases hob:obS ro st1 o' with
           |none=>rw[hob] at h6;cases h6
           |some ao=>
            rw[hob] at h6;refine hl b o' ao v hno (w2n▸hob) ?_ hv hvf;cases ao<;>first|rfl|cases h6
        .obtain⟨v,rfl⟩:=hf';simp only[q6t] at hk';have hmem:=hG.mem.callM hG'.mem rfl
         refine ih (fuel:=fuel) (fuelc:=c) (by omega) (by have:=j3b (mem_ready.1 hj).1;omega) (hcl.set hj) (hls.set (hmlt j hj) hjL) hL (fun x hx o d ho hd=>z7a hx ho hd) hk'
          ⟨G.dead ⟨hmem.inner,hG'.objs,hG'.slots,hG'.fresh,hG'.ext,hG'.glob⟩,hmem,keepF ho hjL⟩ ((hpr.mono hext hsub hG'.mem.keeps.size).filter) hk
       .simp only[hw,Bool.false_eq_true,if_false];rw[z42];obtain⟨st',hk',_,_,hG'⟩:=hG1.put (v:=undef) .und hno;rw[q6t] at hk';refine⟨fun q _ _ b _=>rfl,?_⟩;exact ih (fuel:=fuel) (fuelc:=c) (by omega) (by have:=j3b (mem_ready.1 hj).1;omega) (hcl.set hj) (hls.set (hmlt j hj) hjL) hL (fun x hx o d ho hd=>z7a hx ho hd) hk' ⟨hG'.dead,hG.mem,keepF ho hjL⟩ hpr.filter hk
theorem y44{E:Ev S}{inlh:InlH S}{C:Ro S->Prop}(hP:E.D.OkP E.P)(hst:StH E inlh n C)(hro:C ro)(hsel:Region.noSelect ops=true)(hQ: ∀c a w,¬Q (.panic c) a w){k:AS S->Prop}
  (h:y4x E inlh n ro ops k st)(hG:G E.D cx ν0 ro st f w ν σ ms)(hk: ∀st' f' w' ν' σ' ms',k st'->G E.D cx ν0 ro st' f' w' ν' σ' ms'->Q .normal (mk n f') w'):wpK E.P ops Q ops.size (bt ops.size 0) [] (mk n f) w:=by
 unfold y4x at h;rw[j7o,q6t] at h;have hz: ∀j,¬(bt ops.size 0).getD j false=true:=fun j hj=>by have:=(v6l.1 hj).2;simp at this
 have hL:Lts E.P E.D ro ops (v59 E.P E.D ro ops):=fun i hi=>v6k (List.mem_filter.1 hi).2
 have hun:unl (bt ops.size 0)<=ops.size:=by unfold unl;refine Nat.le_trans (List.countP_le_length) ?_;simp[bt]
 refine y43 hP hst hro hsel hQ (ν:=ν) (N:=ops.size+ops.size) (pl:=[]) (Nat.le_refl _) hun w8t ⟨by simp[bt],fun j=>by simp[hz j],by simp,fun i hi=>⟨List.mem_range.1 (List.mem_filter.1 hi).1,hz i⟩,List.nodup_range.sublist List.filter_sublist,by simp⟩ hL
  (fun i hi o d ho hd=>z7a hi ho hd) h ⟨?_,by simpa using hG.mem,by simp⟩ (fun q hq=>by cases hq) hk
 have hd:G E.D cx ν0 ro (j26 ops (v59 E.P E.D ro ops) st) f w ν σ ms:=hG.dead;refine⟨?_,hd.objs,hd.slots,hd.fresh,hd.ext,hd.glob⟩;have:St cx w σ (ms++[]):=by simpa using hG.mem
 exact this.inner
end Go.Fx
end
