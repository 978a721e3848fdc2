/-
  Plain facts, and contracts of the functions that the claim's walk comes to, one behind the other. Conditions: as each says.
-/
import Derived.Test.YtdgbjhfkmembdaaGreatDoorProg
import Derived.Test.YtdgbjhfkmembdaaGreatDoorPart4
import Derived.Handy
import Derived.PlainAid
import Derived.Lib.Hide
import Derived.Deep.RegionWith
import Derived.Deep.DeepCutAuto
import Derived.Deep.CutBlock
import Derived.Deep.LoopGhost
import Derived.Deep.QuietTactic
import Derived.BigQuiet
import Derived.WalkSmall
import Derived.WalkSpells
import Derived.WalkLawsBesides
import Derived.Test.YtdgbjhfkmembdaaGreatDoorShelf
import Derived.Lib.OthersKept
import Derived.Test.YtdgbjhfkmembdaaGreatDoorCards
import Derived.Test.YtdgbjhfkmembdaaGreatDoorTie
import Derived.WalkKit
import Derived.ProofKit
import Derived.OpenShut
import Derived.ShutString
import Derived.SliceStrings
import Derived.Carry
import Derived.Deep.DeepHandedRow
import Derived.Lay
import Derived.MakeChecks
import Derived.Shelf.Vars
import Derived.SevenTiedAt
import Derived.Deep.SlicePairs
import Derived.Laws.CopyOwn
import Derived.Sort.Grow
import Derived.Deep.Draws
import Derived.Below
import Derived.BigFrame
import Derived.Maps.Own
import Derived.Maps.OwnOps
import Derived.Maps.OwnSet
import Derived.Maps.Views
import Derived.Great.FillDense
import Derived.Laws.Tables
set_option linter.unusedVariables false
set_option linter.unusedSimpArgs false
set_option maxHeartbeats 4000000
set_option maxRecDepth 1000000
open Go.Proofs.Tryz
namespace Go.Proofs.YtdgbjhfkmembdaaGreatDoor
section
open Go.RowKit
open Lib (hid)
theorem qs(r:Int)(w:World)(h0:0≤r)(h1:r≤2147483647):Calls prog 180 #[.int .i32 r] w fun e w'=>
    w=w'∧e=.returned (.bool (KA r)):=by
  by_cases a1:r≤1114111
  ·by_cases a2:r<55296
   ·rw[show KA r=true by simp [KA,h0,a1,a2]];go_enter func180,ntmps180
    go_wp2
    go_ret;exact⟨rfl,rfl⟩
   ·rw[show KA r=decide (57343<r) by simp [KA,h0,a1];omega];have:55296≤r:=by omega
    go_enter func180,ntmps180
    go_wp2
    go_ret;exact⟨rfl,rfl⟩
  ·rw[show KA r=false by simp [KA];omega];go_enter func180,ntmps180
   go_wp2
   go_ret;exact⟨rfl,rfl⟩
def qt(c:Nat):Int×Nat×Nat:=
  if c<128 then (0,c,0) else if c<192 then (-1,0,0) else if c<224 then (1,c % 32,128) else if c<240 then (2,c % 16,2048)
  else if c<248 then (3,c % 8,65536) else (-1,0,0)
theorem lead1{c:Nat}(h:c<128):qt c=(0,c,0):=by simp [qt,h]
theorem leadX{c:Nat}(h:128≤c∧c<192∨248≤c):qt c=(-1,0,0):=by
  unfold qt;rw[if_neg yz];by_cases b:c<192
  ·rw[if_pos b]
  ·rw[if_neg b,if_neg yz,if_neg yz,if_neg yz]
theorem lead2{c:Nat}(h:192≤c∧c<224):qt c=(1,c % 32,128):=by
  unfold qt;rw[if_neg yz,if_neg yz,if_pos yz]
theorem lead3{c:Nat}(h:224≤c∧c<240):qt c=(2,c % 16,2048):=by
  unfold qt;rw[if_neg yz,if_neg yz,if_neg yz,if_pos yz]
theorem lead4{c:Nat}(h:240≤c∧c<248):qt c=(3,c % 8,65536):=by
  unfold qt;rw[if_neg yz,if_neg yz,if_neg yz,if_neg yz,if_pos yz]
theorem zI(c:Nat)(w:World)(hc:c<256):Calls prog 258 #[.int .u8 c] w fun e w'=>
    w=w'∧e=.returned (.tuple #[.int .i64 (qt c).1,.int .i32 (qt c).2.1,.int .i32 (qt c).2.2]):=by
  rcases (by omega:c<128∨(128≤c∧c<192)∨(192≤c∧c<224)∨(224≤c∧c<240)∨(240≤c∧c<248)∨248≤c) with a|a|a|a|a|a
  ·rw[lead1 a];go_enter func258,ntmps258
   go_wp2
   go_ret3;exact⟨rfl,rfl⟩
  ·rw[leadX (.inl a)];go_enter func258,ntmps258
   go_wp2
   go_ret3;exact⟨rfl,rfl⟩
  ·rw[lead2 a];go_enter func258,ntmps258
   go_wp2
   go_ret3;exact⟨rfl,rfl⟩
  ·rw[lead3 a];go_enter func258,ntmps258
   go_wp2
   go_ret3;exact⟨rfl,rfl⟩
  ·rw[lead4 a];go_enter func258,ntmps258
   go_wp2
   go_ret3;exact⟨rfl,rfl⟩
  ·rw[leadX (.inr a)];go_enter func258,ntmps258
   go_wp2
   go_ret3;exact⟨rfl,rfl⟩
theorem high2:∀c:Fin 256,(bits BinOp.and IntKind.u8 ((c.val:Nat):Int) 192 == 128)=(c.val / 64 == 2):=by
  decide+kernel
theorem vS{c:Nat}(h:c<256)(g:c / 64=2):(bits BinOp.and IntKind.u8 (c:Int) 192 == 128)=true∧(bits BinOp.and IntKind.u8 (c:Int) 192 != 128)=false:=by
  have:=high2 ⟨c,h⟩;simp only[g] at this;exact⟨this,by simp [bne,this]⟩
theorem U9{c:Nat}(h:c<256)(g:¬c / 64=2):(bits BinOp.and IntKind.u8 (c:Int) 192 == 128)=false∧(bits BinOp.and IntKind.u8 (c:Int) 192 != 128)=true:=by
  have:=high2 ⟨c,h⟩;simp only[beq_eq_false_iff_ne.2 g] at this;exact⟨this,by simp [bne,this]⟩
def DecGives(s:ByteArray)(i:Nat)(w:World)(e:Ending)(w':World):Prop:=
  w=w'∧(KH s i=true∧e=.returned (.tuple #[.int .i32 (Utf8.decode s i).1,.int .i64 ((i+(Utf8.decode s i).2:Nat):Int),.bool true])∨
   KH s i=false∧∃r n:Int,e=.returned (.tuple #[.int .i32 r,.int .i64 n,.bool false]))
theorem DecGives.yes{s:ByteArray}{i r n:Nat}{w:World}{e:Ending}(k:KH s i=true)(d:Utf8.decode s i=(r,n))(h:e=.returned (.tuple #[.int .i32 r,.int .i64 ((i+n:Nat):Int),.bool true])):DecGives s i w e w:=
  ⟨rfl,.inl ⟨k,by rw[d];exact h⟩⟩
theorem DecGives.no{s:ByteArray}{i:Nat}{r n:Int}{w:World}{e:Ending}(k:KH s i=false)(h:e=.returned (.tuple #[.int .i32 r,.int .i64 n,.bool false])):DecGives s i w e w:=
  ⟨rfl,.inr ⟨k,_,_,h⟩⟩
theorem vT{a b a' b':Int}{x y:Bool}(h1:a=a')(h2:b=b')(h3:x=y):Ending.returned (.tuple #[.int .i32 a,.int .i64 b,.bool x])=.returned (.tuple #[.int .i32 a',.int .i64 b',.bool y]):=by rw[h1,h2,h3]
theorem decode1(s:ByteArray)(i:Nat)(w:World)(h0:i<s.size)(hs:s.size≤maxLen)(h:B s i<128):
    Calls prog 234 #[.string s,.int .i64 i] w (DecGives s i w):=by
  unfold maxLen at hs;have D:=getB s;have A:=Js s i;have C:(i:Int)<(s.size:Int):=by omega
  go_enter func234,ntmps234;go_wp2_with fail;refine(zI _ _ A).mono ?_;rw[lead1 h];rintro e w' ⟨rfl,rfl⟩;go_wp2_with fail;refine wp_loop_rounds 1 ?_;rw[rounds_succ]
  go_wp2_with (go_at_call 180;refine(qs _ _ yz yz).mono ?_;rintro e w' ⟨rfl,rfl⟩)
  go_ret3;have d:=dec1 h;exact .yes d.2 d.1 (vT rfl yz (by simp [KA];omega))
theorem decodeX(s:ByteArray)(i:Nat)(w:World)(h0:i<s.size)(hs:s.size≤maxLen)(h:128≤B s i∧B s i<192∨248≤B s i):
    Calls prog 234 #[.string s,.int .i64 i] w (DecGives s i w):=by
  unfold maxLen at hs;have D:=getB s;have A:=Js s i;have C:(i:Int)<(s.size:Int):=by omega
  go_enter func234,ntmps234;go_wp2_with fail;refine(zI _ _ A).mono ?_;rw[leadX h];rintro e w' ⟨rfl,rfl⟩;go_wp2_with fail;go_ret3;exact .no (dec_lone h) rfl
theorem decode2(s:ByteArray)(i:Nat)(w:World)(h0:i<s.size)(hs:s.size≤maxLen)(h:192≤B s i∧B s i<224):
    Calls prog 234 #[.string s,.int .i64 i] w (DecGives s i w):=by
  unfold maxLen at hs;have J:=getB s;have D:=Js s i;have E:=Js s (i+1);have I:(i:Int)<(s.size:Int):=by omega
  go_enter func234,ntmps234;by_cases hl:s.size≤i+1
  ·go_wp2_with fail;refine(zI _ _ D).mono ?_;rw[lead2 h];rintro e w' ⟨rfl,rfl⟩;go_wp2_with fail;go_ret3;exact .no (dec2_no h (JO (.inl yz))) rfl
  by_cases c1:¬B s (i+1) / 64=2
  ·have⟨q1,p1⟩:=U9 E c1;go_wp2_with fail;refine(zI _ _ D).mono ?_;rw[lead2 h];rintro e w' ⟨rfl,rfl⟩;go_wp2_with fail;refine wp_loop_rounds 1 ?_;rw[rounds_succ];go_wp2_with fail;go_ret3;exact .no (dec2_no h (JO (.inr c1))) rfl
  have C:B s (i+1) / 64=2:=by omega
  have⟨q1,p1⟩:=vS E C;have F:=hid (Jm (s:=s) (k:=i+1) yz C);clear c1 C;have G:(((B s i:Nat):Int) % 32)*64+((B s (i+1):Nat):Int) % 64=((v2 s i:Nat):Int):=by unfold v2;omega
  have A:=hid G;clear G;by_cases v:128≤v2 s i
  ·have H:(128:Int)≤(((B s i:Nat):Int) % 32)*64+((B s (i+1):Nat):Int) % 64:=by rw[A.out];omega
   go_wp2_with fail;refine(zI _ _ D).mono ?_;rw[lead2 h];rintro e w' ⟨rfl,rfl⟩;go_wp2_with fail;refine wp_loop_rounds 2 ?_;rw[rounds_succ];go_wp2_with fail;rw[rounds_succ]
   go_wp2_with (go_at_call 180;refine(qs _ _ yz yz).mono ?_;rintro e w' ⟨rfl,rfl⟩)
   go_ret3;rcases dec2 h F.out with⟨_,d,k⟩|⟨d,k⟩
   ·exact .yes k d (vT A.out yz (by simp [KA];omega))
   ·omega
  ·have H:¬(128:Int)≤(((B s i:Nat):Int) % 32)*64+((B s (i+1):Nat):Int) % 64:=by rw[A.out];omega
   go_wp2_with fail;refine(zI _ _ D).mono ?_;rw[lead2 h];rintro e w' ⟨rfl,rfl⟩;go_wp2_with fail;refine wp_loop_rounds 2 ?_;rw[rounds_succ];go_wp2_with fail;rw[rounds_succ];go_wp2_with fail;go_ret3;rcases dec2 h F.out with⟨d,_⟩|⟨_,k⟩
   ·omega
   ·exact .no k rfl
theorem decode3(s:ByteArray)(i:Nat)(w:World)(h0:i<s.size)(hs:s.size≤maxLen)(h:224≤B s i∧B s i<240):
    Calls prog 234 #[.string s,.int .i64 i] w (DecGives s i w):=by
  unfold maxLen at hs;have N:=getB s;have C:=Js s i;have F:=Js s (i+1);have G:=Js s (i+1+1);have M:(i:Int)<(s.size:Int):=by omega
  go_enter func234,ntmps234;by_cases hl:s.size≤i+2
  ·go_wp2_with fail;refine(zI _ _ C).mono ?_;rw[lead3 h];rintro e w' ⟨rfl,rfl⟩;go_wp2_with fail;go_ret3;exact .no (uh h (.inr (JO (.inl yz)))) rfl
  by_cases c1:¬B s (i+1) / 64=2
  ·have⟨q1,p1⟩:=U9 F c1;go_wp2_with fail;refine(zI _ _ C).mono ?_;rw[lead3 h];rintro e w' ⟨rfl,rfl⟩;go_wp2_with fail;refine wp_loop_rounds 1 ?_;rw[rounds_succ];go_wp2_with fail;go_ret3;exact .no (uh h (.inl (JO (.inr c1)))) rfl
  have D:B s (i+1) / 64=2:=by omega
  have⟨q1,p1⟩:=vS F D;have I:=hid (Jm (s:=s) (k:=i+1) yz D);clear c1 D;by_cases c2:¬B s (i+1+1) / 64=2
  ·have⟨q2,p2⟩:=U9 G c2;go_wp2_with fail;refine(zI _ _ C).mono ?_;rw[lead3 h];rintro e w' ⟨rfl,rfl⟩;go_wp2_with fail;refine wp_loop_rounds 2 ?_;rw[rounds_succ];go_wp2_with fail;rw[rounds_succ];go_wp2_with fail;go_ret3;exact .no (uh h (.inr (JO (.inr c2)))) rfl
  have E:B s (i+1+1) / 64=2:=by omega
  have⟨q2,p2⟩:=vS G E;have J:=hid (Jm (s:=s) (k:=i+1+1) yz E);clear c2 E;have K:((((B s i:Nat):Int) % 16)*64+((B s (i+1):Nat):Int) % 64)*64+((B s (i+1+1):Nat):Int) % 64=((v3 s i:Nat):Int):=by unfold v3;rw[show i+2=i+1+1 from rfl];omega
  have A:=hid K;clear K;by_cases v:2048≤v3 s i
  ·have L:(2048:Int)≤((((B s i:Nat):Int) % 16)*64+((B s (i+1):Nat):Int) % 64)*64+((B s (i+1+1):Nat):Int) % 64:=by rw[A.out];omega
   go_wp2_with fail;refine(zI _ _ C).mono ?_;rw[lead3 h];rintro e w' ⟨rfl,rfl⟩;go_wp2_with fail;refine wp_loop_rounds 3 ?_;rw[rounds_succ];go_wp2_with fail;rw[rounds_succ];go_wp2_with fail;rw[rounds_succ]
   go_wp2_with (go_at_call 180;refine(qs _ _ yz yz).mono ?_;rintro e w' ⟨rfl,rfl⟩)
   go_ret3;rcases dec3 h I.out J.out with⟨_,H,d,k⟩|⟨d,k⟩
   ·exact .yes k d (vT A.out yz (by rw[A.out];exact H))
   ·have H:KA (v3 s i)=false:=d.resolve_left yz;exact .no k (vT rfl rfl (by rw[A.out];exact H))
  ·have L:¬(2048:Int)≤((((B s i:Nat):Int) % 16)*64+((B s (i+1):Nat):Int) % 64)*64+((B s (i+1+1):Nat):Int) % 64:=by rw[A.out];omega
   go_wp2_with fail;refine(zI _ _ C).mono ?_;rw[lead3 h];rintro e w' ⟨rfl,rfl⟩;go_wp2_with fail;refine wp_loop_rounds 3 ?_;rw[rounds_succ];go_wp2_with fail;rw[rounds_succ];go_wp2_with fail;rw[rounds_succ];go_wp2_with fail;go_ret3;rcases dec3 h I.out J.out with⟨d,_⟩|⟨_,k⟩
   ·omega
   ·exact .no k rfl
theorem decode4(s:ByteArray)(i:Nat)(w:World)(h0:i<s.size)(hs:s.size≤maxLen)(h:240≤B s i∧B s i<248):
    Calls prog 234 #[.string s,.int .i64 i] w (DecGives s i w):=by
  unfold maxLen at hs;have Q:=getB s;have C:=Js s i;have G:=Js s (i+1);have H:=Js s (i+1+1);have I:=Js s (i+1+2);have P:(i:Int)<(s.size:Int):=by omega
  go_enter func234,ntmps234;by_cases hl:s.size≤i+3
  ·go_wp2_with fail;refine(zI _ _ C).mono ?_;rw[lead4 h];rintro e w' ⟨rfl,rfl⟩;go_wp2_with fail;go_ret3;exact .no (Zh h (.inr (.inr (JO (.inl yz))))) rfl
  by_cases c1:¬B s (i+1) / 64=2
  ·have⟨q1,p1⟩:=U9 G c1;go_wp2_with fail;refine(zI _ _ C).mono ?_;rw[lead4 h];rintro e w' ⟨rfl,rfl⟩;go_wp2_with fail;refine wp_loop_rounds 1 ?_;rw[rounds_succ];go_wp2_with fail;go_ret3;exact .no (Zh h (.inl (JO (.inr c1)))) rfl
  have D:B s (i+1) / 64=2:=by omega
  have⟨q1,p1⟩:=vS G D;have K:=hid (Jm (s:=s) (k:=i+1) yz D);clear c1 D;by_cases c2:¬B s (i+1+1) / 64=2
  ·have⟨q2,p2⟩:=U9 H c2;go_wp2_with fail;refine(zI _ _ C).mono ?_;rw[lead4 h];rintro e w' ⟨rfl,rfl⟩;go_wp2_with fail;refine wp_loop_rounds 2 ?_;rw[rounds_succ];go_wp2_with fail;rw[rounds_succ];go_wp2_with fail;go_ret3;exact .no (Zh h (.inr (.inl (JO (.inr c2))))) rfl
  have E:B s (i+1+1) / 64=2:=by omega
  have⟨q2,p2⟩:=vS H E;have L:=hid (Jm (s:=s) (k:=i+1+1) yz E);clear c2 E;by_cases c3:¬B s (i+1+2) / 64=2
  ·have⟨q3,p3⟩:=U9 I c3;go_wp2_with fail;refine(zI _ _ C).mono ?_;rw[lead4 h];rintro e w' ⟨rfl,rfl⟩;go_wp2_with fail;refine wp_loop_rounds 3 ?_;rw[rounds_succ];go_wp2_with fail;rw[rounds_succ];go_wp2_with fail;rw[rounds_succ];go_wp2_with fail;go_ret3;exact .no (Zh h (.inr (.inr (JO (.inr c3))))) rfl
  have F:B s (i+1+2) / 64=2:=by omega
  have⟨q3,p3⟩:=vS I F;have M:=hid (Jm (s:=s) (k:=i+1+2) yz F);clear c3 F;have N:(((((B s i:Nat):Int) % 8)*64+((B s (i+1):Nat):Int) % 64)*64+((B s (i+1+1):Nat):Int) % 64)*64+((B s (i+1+2):Nat):Int) % 64=((v4 s i:Nat):Int):=by unfold v4;rw[show i+2=i+1+1 from rfl,show i+3=i+1+2 from rfl];omega
  have A:=hid N;clear N;by_cases v:65536≤v4 s i
  ·have O:(65536:Int)≤(((((B s i:Nat):Int) % 8)*64+((B s (i+1):Nat):Int) % 64)*64+((B s (i+1+1):Nat):Int) % 64)*64+((B s (i+1+2):Nat):Int) % 64:=by rw[A.out];omega
   go_wp2_with fail;refine(zI _ _ C).mono ?_;rw[lead4 h];rintro e w' ⟨rfl,rfl⟩;go_wp2_with fail;refine wp_loop_rounds 4 ?_;rw[rounds_succ];go_wp2_with fail;rw[rounds_succ];go_wp2_with fail;rw[rounds_succ];go_wp2_with fail;rw[rounds_succ]
   go_wp2_with (go_at_call 180;refine(qs _ _ yz yz).mono ?_;rintro e w' ⟨rfl,rfl⟩)
   go_ret3;rcases dec4 h K.out L.out M.out with⟨_,J,d,k⟩|⟨d,k⟩
   ·exact .yes k d (vT A.out yz (by rw[A.out];exact J))
   ·have J:KA (v4 s i)=false:=d.resolve_left yz;exact .no k (vT rfl rfl (by rw[A.out];exact J))
  ·have O:¬(65536:Int)≤(((((B s i:Nat):Int) % 8)*64+((B s (i+1):Nat):Int) % 64)*64+((B s (i+1+1):Nat):Int) % 64)*64+((B s (i+1+2):Nat):Int) % 64:=by rw[A.out];omega
   go_wp2_with fail;refine(zI _ _ C).mono ?_;rw[lead4 h];rintro e w' ⟨rfl,rfl⟩;go_wp2_with fail;refine wp_loop_rounds 4 ?_;rw[rounds_succ];go_wp2_with fail;rw[rounds_succ];go_wp2_with fail;rw[rounds_succ];go_wp2_with fail;rw[rounds_succ];go_wp2_with fail;go_ret3;rcases dec4 h K.out L.out M.out with⟨d,_⟩|⟨_,k⟩
   ·omega
   ·exact .no k rfl
theorem decode_any(s:ByteArray)(i:Nat)(w:World)(h0:i<s.size)(hs:s.size≤maxLen):
    Calls prog 234 #[.string s,.int .i64 i] w (DecGives s i w):=by
  have:=Js s i;rcases (by omega:B s i<128∨(128≤B s i∧B s i<192∨248≤B s i)∨(192≤B s i∧B s i<224)∨(224≤B s i∧B s i<240)∨(240≤B s i∧B s i<248)) with h|h|h|h|h
  ·exact decode1 s i w h0 hs h
  ·exact decodeX s i w h0 hs h
  ·exact decode2 s i w h0 hs h
  ·exact decode3 s i w h0 hs h
  ·exact decode4 s i w h0 hs h
def ChkGives(s:ByteArray)(w:World)(e:Ending)(w':World):Prop:=
  w=w'∧(KO s=true∧e=.returned (.tuple #[.int .i64 0,.int .i64 0])∨KO s=false∧∃n:Int,e=.returned (.tuple #[.int .i64 n,.int .i64 5]))
theorem Ua(s:ByteArray)(w:World)(hs:s.size≤maxLen):
    Calls prog 198 #[.string s] w (ChkGives s w):=by
  have D:=hs;unfold maxLen at hs;go_enter func198,ntmps198
  go_wp2
  go_loop [2] (fun t=>∃k:Nat,k≤s.size∧t=.int .i64 k∧Hid (KO s=(jA s k).isSome)) (fun t=>s.size - (intOf t).toNat)
  case atStart=>exact⟨0,Nat.zero_le _,rfl,hid rfl⟩
  case round=>
    obtain⟨k,F,rfl,C⟩:=hrel;by_cases hlt:k<s.size
    ·have E:=ZA hlt;go_wp2_with fail;refine(decode_any s k _ hlt D).mono ?_;rintro e w' ⟨rfl,⟨B,rfl⟩|⟨B,r,n,rfl⟩⟩
     ·have A:=hid B;clear B;go_wp2_with fail
      go_round
      case rel=>exact⟨k+(Utf8.decode s k).2,by omega,rfl,hid (by rw[C.out,KE hlt A.out];simp)⟩
      case measure=>simp [intOf];omega
     ·have A:=hid B;clear B;go_wp2_with fail;go_ret2;exact⟨rfl,.inr ⟨by rw[C.out,vp hlt A.out];rfl,_,rfl⟩⟩
    ·go_wp2_with fail;go_ret2;exact⟨rfl,.inl ⟨by rw[C.out,KB yz];rfl,rfl⟩⟩
theorem refMay_any(r:Int)(w:World)(h0:0≤r)(h1:r≤2147483647):Calls prog 209 #[.int .i32 r] w fun e w'=>
    w=w'∧e=.returned (.bool (KA r)):=by
  by_cases a2:r<55296
  ·rw[show KA r=true by simp [KA];omega];go_enter func209,ntmps209
   go_wp2
   go_ret;exact⟨rfl,rfl⟩
  ·have:55296≤r:=by omega
   by_cases a3:57343<r
   ·rw[show KA r=decide (r≤1114111) by unfold KA;rw[Bool.eq_iff_iff];simp;omega];go_enter func209,ntmps209
    go_wp2
    go_ret;exact⟨rfl,rfl⟩
   ·rw[show KA r=false by unfold KA;rw[Bool.eq_false_iff];simp;omega];go_enter func209,ntmps209
    go_wp2
    go_ret;exact⟨rfl,rfl⟩
theorem qu(r:Int)(w:World)(h0:0≤r)(h1:r≤1114111):Calls prog 113 #[.int .i32 r] w fun e w'=>
    w.alloc (.cells ((vl r).map (Value.int .u8)).toArray 5)=w'∧e=.returned (.slice (some ⟨w.heap.size,0,none⟩) (vl r).length (vl r).length):=by
  rcases (by omega:r<128∨(128≤r∧r<2048)∨(2048≤r∧r<65536)∨65536≤r) with a|⟨a,b⟩|⟨a,b⟩|a
  ·rw[encB1 a];go_enter func113,ntmps113
   go_wp2
   go_ret;exact⟨rfl,rfl⟩
  ·rw[encB2 a b];go_enter func113,ntmps113
   go_wp2
   go_ret;exact⟨rfl,rfl⟩
  ·rw[encB3 a b];go_enter func113,ntmps113
   go_wp2
   go_ret;exact⟨rfl,rfl⟩
  ·rw[encB4 a];go_enter func113,ntmps113
   go_wp2
   go_ret;exact⟨rfl,rfl⟩
def OneGives(s:ByteArray)(i:Nat)(w:World)(e:Ending)(w':World):Prop:=
  Below w.heap.size w w'∧(KH s i=true∧e=.returned (.tuple #[.int .i32 (Utf8.decode s i).1,.int .i64 ((Utf8.decode s i).2:Int)])∨
    KH s i=false∧e=.returned (.tuple #[.int .i32 0,.int .i64 0]))
theorem ui{s:ByteArray}{i k:Nat}(h:KH s i=true→k≤(Utf8.decode s i).2)(n:¬hit s i k):KH s i=true→k+1≤(Utf8.decode s i).2:=by
  intro A;have:=h A;rcases Nat.lt_or_ge k (Utf8.decode s i).2 with a|a
  ·exact a
  ·exact absurd ⟨A,by omega⟩ n
theorem one_any(s:ByteArray)(i:Nat)(w:World)(hi:i<s.size)(hs:s.size≤maxLen):Calls prog 172 #[.string s,.int .i64 i] w (OneGives s i w):=by
  unfold maxLen at hs;have l:=getB s;have m:=Js s i;have Y:=Js s (i+1);have Z:=Js s (i+2);have a:=Js s (i+3);have b:(i:Int)<(s.size:Int):=by omega
  go_enter func172,ntmps172
  go_wp2
  go_loopw [6] (fun n wr=>∃k:Nat,1≤k∧n=.int .i64 k∧Below w.heap.size w wr∧Hid (KH s i=true→k≤(Utf8.decode s i).2)) (fun n _=>5 - (intOf n).toNat)
  case atStart=>exact⟨1,by omega,rfl,Below.refl _ _,hid fun _=>(ZA hi).2.1⟩
  case round=>
    obtain⟨k,Q,rfl,D,K⟩:=hrel;by_cases hin:k≤4∧i+k≤s.size
    ·obtain⟨H,L⟩:=hin;have c:=vOf_range s i k
     go_upto_block 2 with (fail)
     go_cut [7] (fun s7 wx=>s7=.int .i64 (vOf s i k)∧Below w.heap.size w wx)
     case first=>
       rcases (by omega:k=1∨k=2∨k=3∨k=4) with rfl|rfl|rfl|rfl
       ·go_wp2_with fail
        go_meet
        exact⟨rfl,D⟩
       ·have R:(i:Int)+1<s.size:=by omega
        go_wp2_with fail
        go_quiet (fail)
        go_wp2_with fail
        go_meet
        exact⟨rfl,below_drewN D _⟩
       ·have R:(i:Int)+1<s.size:=by omega
        have W:(i:Int)+2<s.size:=by omega
        go_wp2_with fail
        go_quiet (fail)
        go_wp2_with fail
        go_meet
        exact⟨rfl,below_drewN D _⟩
       ·have R:(i:Int)+1<s.size:=by omega
        have W:(i:Int)+2<s.size:=by omega
        have o:(i:Int)+3<s.size:=by omega
        go_wp2_with fail
        go_quiet (fail)
        go_wp2_with fail
        go_meet
        exact⟨rfl,below_drewN D _⟩
     case rest=>
       obtain⟨rfl,A⟩:=hcut;by_cases hm:KA (vOf s i k)=true
       ·have d:=may_range hm;have B:=hid hm;clear hm;generalize hv:vOf s i k=v at *;have C:=hid hv;clear hv;have S:IntKind.i32.wrap v=v:=IntWalk.i32_in _ yz
        go_wp2_with (go_at_call 209;refine(refMay_any _ _ yz yz).mono ?_;rw[B.out];rintro e w' ⟨rfl,rfl⟩)
        have V:∀wx:World,(convert 169 9 (.slice (some ⟨wx.heap.size,0,none⟩) (vl v).length (vl v).length)).run prog (wx.alloc (.cells ((vl v).map (Value.int .u8)).toArray 5)).drew=.ok (.string (strOfNums (vl v))) (wx.alloc (.cells ((vl v).map (Value.int .u8)).toArray 5)).drew:=by
          intro wx;refine run_convert_bytes_arg _ 169 5 underlying169 underlying5 _ 0 _ _ _ rfl ?_ 9 underlying9;intro j X;rw[Nat.zero_add];show (wx.alloc _).cell? _=_;rw[World.cell?_alloc_new];simp [List.getD,X]
        have f:IntKind.i64.wrap ((i:Int)+(k:Int))=(i:Int)+k:=IntWalk.i64_in _ yz;have g:∀wx:World,(Instr.slice 9 (.string s) (some (.int .i64 (i:Int))) (some (.int .i64 ((i:Int)+(k:Int)))) none).run prog wx=.ok (.string (s.extract i (i+k))) wx:=by
          intro wx;have:=run_slice_string (P:=prog) (w:=wx) 9 s .i64 .i64 (i:Int) ((i:Int)+k) underlying9 yz yz yz;rw[this]
          congr 2
        have M:=enc_beq (v:=v) Q H L yz yz;by_cases hh:vl v=zF s i k
        ·rw[decide_eq_true hh] at M;have E:=hid hh;clear hh
         go_region_with (go_at_call 113;refine(qu _ _ yz yz).mono ?_;rintro e w' ⟨rfl,rfl⟩)
         go_wp2_with fail;go_ret2;have F:hit s i k:=vOf_miss Q H L (by rw[C.out];exact B.out) (by rw[C.out];exact E.out);obtain⟨I,_⟩:=vOf_hit F;refine⟨(A.alloc A.size _).drew,.inl ⟨F.1,?_⟩⟩;rw[←I,F.2,C.out];rfl
        ·rw[decide_eq_false hh] at M;have E:=hid hh;clear hh
         go_region_with (go_at_call 113;refine(qu _ _ yz yz).mono ?_;rintro e w' ⟨rfl,rfl⟩)
         go_wp2_with fail
         go_roundw
         case rel=>
           refine⟨k+1,by omega,by go_num,(A.alloc A.size _).drew,hid (ui K.out ?_)⟩;intro F;obtain⟨I,_,T,_⟩:=vOf_hit F;rw[←I,C.out] at T;exact E.out T
         case measure=>simp [intOf];omega
       ·have N:¬hit s i k:=by
          intro F;obtain⟨I,U,_⟩:=vOf_hit F;rw[←I] at U;exact hm U
        have G:=hid N;clear N;have O:KA (vOf s i k)=false:=by simpa using hm
        clear hm;have B:=hid O;clear O;generalize hv:vOf s i k=v at *;clear hv;by_cases hr:0≤v∧v≤1114111
        ·have S:IntKind.i32.wrap v=v:=IntWalk.i32_in _ yz
         go_wp2_with (go_at_call 209;refine(refMay_any _ _ yz yz).mono ?_;rw[B.out];rintro e w' ⟨rfl,rfl⟩)
         go_roundw
         case rel=>exact⟨k+1,by omega,by go_num,A,hid (ui K.out G.out)⟩
         case measure=>simp [intOf];omega
        ·by_cases hr0:v<0
         rotate_left
         focus
           have h:1114111<v:=by omega
         all_goals
           go_wp2_with fail
           go_roundw
           case rel=>exact⟨k+1,by omega,by go_num,A,hid (ui K.out G.out)⟩
           case measure=>simp [intOf];omega
    ·have J:OneGives s i w (.returned (.tuple #[.int .i32 0,.int .i64 0])) wr:=by
       refine⟨D,.inr ⟨?_,rfl⟩⟩;cases ho:KH s i
       ·rfl
       ·have:=K.out ho;have:=ZA hi;omega
     by_cases H:k≤4
     ·go_wp2_with fail;go_ret2;exact J
     ·go_wp2_with fail;go_ret2;exact J
end
section
open Go.RowKit
theorem ZV{a b:Bool}(h:a=b):Ending.returned (.bool a)=.returned (.bool b):=by rw[h]
theorem shown_any(r:Nat)(w:World)(hr:r≤2147483647):Calls prog 211 #[.int .i32 r] w fun e w'=>w=w'∧e=.returned (.bool (jI r)):=by
  have A:32≤r∧r≠127→jI r=true:=by intro h;simp [jI,h]
  have B:¬(32≤r∧r≠127)→jI r=false:=by intro h;rw[Bool.eq_false_iff];simp [jI];omega
  rcases (by omega:r<32∨r=127∨(32≤r∧r<127)∨127<r) with h|h|h|h
  all_goals
    first
    |rw[A yz]
    |rw[B yz]
    clear A B
    first
    |(subst h;go_enter func211,ntmps211;go_wp2;go_ret;refine⟨rfl,ZV ?_⟩;simp;done)
    |(go_enter func211,ntmps211;go_wp2;go_ret;refine⟨rfl,ZV ?_⟩;simp;omega)
    |(go_enter func211,ntmps211;go_wp2;go_ret;refine⟨rfl,ZV ?_⟩;simp;done)
    |(go_enter func211,ntmps211;go_wp2;go_ret;refine⟨rfl,ZV ?_⟩;simp;omega)
theorem all_head{p:Nat→Bool}{s:ByteArray}{k:Nat}(h:k<s.size)(ho:KH s k=true):
    ((jA s k).map (·.all p))=(((jA s (k+(Utf8.decode s k).2)).map (·.all p)).map (p (Utf8.decode s k).1 && ·)):=by
  rw[KE h ho];cases jA s (k+(Utf8.decode s k).2)<;>simp
def okFrom(s:ByteArray)(k:Nat):Prop:=(jA s k).isSome=true
theorem okFrom.at_{s:ByteArray}{k:Nat}(h:okFrom s k)(hk:k<s.size):KH s k=true∧okFrom s (k+(Utf8.decode s k).2):=by
  cases ho:KH s k
  ·unfold okFrom at h;rw[vp hk ho] at h;cases h
  ·refine⟨rfl,?_⟩;unfold okFrom at h ⊢;rw[KE hk ho] at h
   simpa using h
theorem uO(s:ByteArray)(w:World)(hs:s.size≤maxLen):
    Calls prog 210 #[.string s,.func (.func 211) #[] #[]] w fun e w'=>Below w.heap.size w w'∧e=.returned (.bool (K7 s jI)):=by
  go_enter func210,ntmps210;go_wp2_with fail;refine(Ua s _ hs).mono ?_;rintro e R ⟨rfl,⟨E,rfl⟩|⟨E,n,rfl⟩⟩
  ·have F:K7 s jI=((jA s 0).map (·.all jI)).getD false:=by
     unfold K7;rw[ZQ];cases jA s 0<;>rfl
   have I:=Lib.hid F;clear F;have G:okFrom s 0:=E;have J:=Lib.hid G;clear G;clear E;unfold maxLen at hs;go_wp2_with fail
   go_loopw [] (fun wr=>∃k:Nat,k≤s.size∧wr=w.iter s k∧Hid (okFrom s k)∧Hid (K7 s jI=((jA s k).map (·.all jI)).getD false)) (fun wr=>s.size - wr.iterPos w.heap.size)
   case atStart=>exact⟨0,by omega,rfl,J,I⟩
   case round=>
     obtain⟨k,S,rfl,P,L⟩:=hrel;by_cases hp:k<s.size
     ·have M:∀B,(Instr.next (.pointer (some ⟨w.heap.size,0,none⟩)) true B).run prog (w.iter s k)=_:=fun B=>run_next_any w s k B hp
      have Q:=ZA hp;have N:=decode_le s k;obtain⟨O,H⟩:=P.at_ hp;have C:=Lib.hid O;clear O;have D:=Lib.hid H;clear H;cases hpr:jI (Utf8.decode s k).1
      all_goals
        have A:=Lib.hid hpr;clear hpr;go_wp2_with fail;refine(shown_any _ _ N).mono ?_;rintro e T ⟨rfl,rfl⟩;rw[A.out];go_wp2_with fail
      ·go_ret;refine⟨(qB _ w).alloc (qR _) _,?_⟩;rw[L.out,all_head hp C.out,A.out];cases jA s (k+(Utf8.decode s k).2)<;>rfl
      ·go_roundw
       case rel=>
         refine⟨k+(Utf8.decode s k).2,by omega,rfl,D,Lib.hid ?_⟩;rw[L.out,all_head hp C.out,A.out];cases jA s (k+(Utf8.decode s k).2)<;>simp
       case measure=>simp;omega
     ·have M:∀B,(Instr.next (.pointer (some ⟨w.heap.size,0,none⟩)) true B).run prog (w.iter s k)=_:=fun B=>run_next_end w s k B hp
      go_wp2_with fail;go_ret;refine⟨(qB _ w).alloc (qR _) _,?_⟩;rw[L.out,KB yz];rfl
  ·have K:=Lib.hid E;clear E;go_wp2_with fail;go_ret;exact⟨qB _ _,by rw[plainB_text K.out];rfl⟩
end
section
open Go.RowKit
open Lib (hid)
theorem ba(a b c:Bool)(h:a=true)(h':b=true):(a && b && c)=c:=by rw[h,h'];simp
theorem uj(s:ByteArray)(w:World)(hs:s.size≤maxLen):Calls prog 226 #[.string s] w fun e w'=>Below w.heap.size w w'∧e=.returned (.bool (zK s)):=by
  have A:=hs;unfold maxLen at hs;by_cases h1:1≤s.size
  ·by_cases h2:s.size≤32
   ·rw[show zK s=K7 s jI by simp [zK,h1,h2]];go_enter func226,ntmps226
    go_wp2_with (go_at_call 210;refine(uO s _ A).mono ?_;rintro e C ⟨B,rfl⟩)
    go_ret;exact⟨B,rfl⟩
   ·rw[show zK s=false by simp [zK,h2]];go_enter func226,ntmps226;go_wp2_with fail;go_ret;exact⟨Below.refl _ _,rfl⟩
  ·rw[show zK s=false by simp [zK,h1]];go_enter func226,ntmps226;go_wp2_with fail;go_ret;exact⟨Below.refl _ _,rfl⟩
def Glob(w:World):Prop:=∃m:Int,w.cell? ⟨0,0,none⟩=some (.int .i64 m)
theorem Glob.keep{w w':World}{B:Nat}(h:Glob w)(hb:Below B w w')(hB:0<B):Glob w':=by
  obtain⟨m,A⟩:=h;exact⟨m,(hb.cell (p:=⟨0,0,none⟩) hB).trans A⟩
theorem Glob.lt{w:World}(h:Glob w):0<w.heap.size:=by
  obtain⟨m,A⟩:=h;rcases Nat.lt_or_ge 0 w.heap.size with a|a
  ·exact a
  ·unfold World.cell? at A;rw[Array.getElem?_eq_none a] at A;cases A
theorem Glob.next{w w':World}(h:Glob w)(hb:Below w.heap.size w w'):Glob w':=h.keep hb h.lt
theorem piece_eq(p:ByteArray):Jd (L p)=(!p.toList.isEmpty && !(p.toList == [46]) && !(p.toList == [46,46])):=by
  rw[ZR,Bool.eq_iff_iff];simp [Jd]
theorem vU(s:ByteArray)(w:World)(hs:s.size≤maxLen)(hg:Glob w):Calls prog 173 #[.string s] w fun e w'=>Below w.heap.size w w'∧e=.returned (.bool (jZ s)):=by
  have O:=hs;unfold maxLen at hs;by_cases h1:s.size<1
  ·rw[show jZ s=false by simp [jZ];omega];go_enter func173,ntmps173;go_wp2_with fail;go_ret;exact⟨Below.refl _ _,rfl⟩
  by_cases h2:64<s.size
  ·rw[show jZ s=false by simp [jZ];omega];go_enter func173,ntmps173;go_wp2_with fail;go_ret;exact⟨Below.refl _ _,rfl⟩
  cases hp:K7 s jI
  ·have B:=hid hp;clear hp;rw[show jZ s=false by simp [jZ,B.out]];go_enter func173,ntmps173
   go_wp2_with (go_at_call 210;refine(uO s _ O).mono ?_;rw[B.out];rintro e U ⟨E,rfl⟩)
   go_ret;exact⟨E,rfl⟩
  ·have B:=hid hp;clear hp;have I:Hid (jZ s=((Lib.splitB Kv 0 (Lib.countB s Kv) s).map L).all Jd):=hid (by rw[UD];simp [jZ,B.out];omega);have K:=Lib.splitB_all Kv yv 0 (Lib.countB s Kv) s rfl;have W:=Lib.countB_le Kv yv _ s (Nat.le_refl _);generalize hq:Lib.splitB Kv 0 (Lib.countB s Kv) s=q at *;have R:=hid hq;clear hq;have b:q.length≤65:=by omega
   have S:=hid K;clear K W;go_enter func173,ntmps173
   go_wp2_with (go_at_call 210;refine(uO s _ O).mono ?_;rw[B.out];rintro e U ⟨E,rfl⟩)
   obtain⟨m,Z⟩:=hg.next E;refine(Tryz.strings_Split s Kv m U yz Z yv).mono ?_;rw[R.out,←S.out];rintro e X ⟨rfl,M⟩;have F:Below w.heap.size w X:=by rw[M];exact E.alloc E.size _
   have G:∀j,(h:j<q.length)→X.cell? ⟨U.heap.size,j,none⟩=some (.string q[j]):=by
     intro j h;rw[M,World.cell?_alloc_new];simp [h]
   have T:=hid G;clear G M;go_wp2_with fail
   go_loop [21] (fun t=>∃k:Nat,k≤q.length∧t=.int .i64 k∧Hid (∀j (h:j<q.length),j<k→Jd (L q[j])=true)) (fun t=>q.length - (intOf t).toNat)
   case atStart=>exact⟨0,by omega,rfl,hid fun j _ N=>absurd N yz⟩
   case round=>
     obtain⟨k,d,rfl,Y⟩:=hrel;by_cases hlt:k<q.length
     ·have f:=T.out k hlt;have P:=piece_eq q[k];have H:Jd (L q[k])=false→jZ s=false:=by
        intro h;rw[I.out,List.all_eq_false];exact⟨L q[k],List.mem_map_of_mem (List.getElem_mem hlt),by simp [h]⟩
      have Q:Jd (L q[k])=true→∀j (h:j<q.length),j<k+1→Jd (L q[j])=true:=by
        intro h j N c;rcases (by omega:j<k∨j=k) with V|V
        ·exact Y.out j N V
        ·subst V;exact h
      generalize hqk:q[k]=p at *;clear hqk;have A:=hid P;clear P;have C:=hid H;clear H;have J:=hid Q;clear Q;cases e1:p.toList.isEmpty
      ·cases e2:(p.toList == [46])
       ·cases e3:(p.toList == [46,46])
        ·have D:Hid (Jd (L p)=true):=hid (by rw[A.out,e1,e2,e3];rfl);go_wp2_with fail
         go_round
         case rel=>exact⟨k+1,by omega,by go_num,hid (J.out D.out)⟩
         case measure=>simp [intOf];omega
        ·have D:Hid (jZ s=false):=hid (C.out (by rw[A.out,e1,e2,e3];rfl));go_wp2_with fail;go_ret;exact⟨F,by rw[D.out];rfl⟩
       ·have D:Hid (jZ s=false):=hid (C.out (by rw[A.out,e1,e2];rfl));go_wp2_with fail;go_ret;exact⟨F,by rw[D.out];rfl⟩
      ·have D:Hid (jZ s=false):=hid (C.out (by rw[A.out,e1];rfl));go_wp2_with fail;go_ret;exact⟨F,by rw[D.out];rfl⟩
     ·go_wp2_with fail;go_ret;refine⟨F,?_⟩;have:jZ s=true:=by
        rw[I.out,List.all_eq_true];intro x a;obtain⟨y,D,rfl⟩:=List.mem_map.1 a;obtain⟨j,N,rfl⟩:=List.getElem_of_mem D;exact Y.out j N yz
      rw[this];rfl
theorem L_app(a b:ByteArray):L (a++b)=L a++L b:=Go.Joins.data_append a b
theorem under_any(a b:ByteArray)(w:World)(ha:a.size≤140737488355328):Calls prog 44 #[.string a,.string b] w fun e w'=>w=w'∧e=.returned (.bool (uJ (L a) (L b))):=by
  go_enter func44,ntmps44;go_wp2_with fail;refine(Tryz.strings_HasPrefix b _ _).mono ?_;rintro e A ⟨rfl,B⟩;obtain rfl:A=w:=B;go_wp2_with fail;go_ret;exact⟨rfl,ZV rfl⟩
theorem clash_any(a b:ByteArray)(w:World)(ha:a.size≤140737488355328)(hb:b.size≤140737488355328):Calls prog 14 #[.string a,.string b] w fun e w'=>w=w'∧e=.returned (.bool (ZC (L a) (L b))):=by
  have C:=str_beq a b;by_cases h1:L a=L b
  ·rw[decide_eq_true h1] at C;rw[show ZC (L a) (L b)=true by simp [ZC,h1]];clear h1;go_enter func14,ntmps14;go_wp2_with fail;go_ret;exact⟨rfl,rfl⟩
  ·rw[decide_eq_false h1] at C;have A:ZC (L a) (L b)=(uJ (L a) (L b) || uJ (L b) (L a)):=by simp [ZC,h1]
   rw[A];clear h1 A;cases hu:uJ (L a) (L b)
   all_goals
     have B:=hid hu;clear hu;go_enter func14,ntmps14;go_wp2_with fail;refine(under_any a b _ ha).mono ?_;rw[B.out];rintro e D ⟨rfl,rfl⟩;go_wp2_with fail
   ·refine(under_any b a _ hb).mono ?_;rintro e D ⟨rfl,rfl⟩;go_wp2_with fail;go_ret;exact⟨rfl,ZV yq⟩
   ·go_ret;exact⟨rfl,ZV yq⟩
def strs(l:List ByteArray):List Value:=l.map Value.string
def Ls(l:List ByteArray):List (List UInt8):=l.map L
def smallL(l:List ByteArray):Prop:=∀t∈l,t.size≤140737488355328
theorem indexByte_first(l:List UInt8):Lib.indexByte l 47=if (47:UInt8)∈l then ((jP l).length:Int) else -1:=by
  induction l with
  |nil=>rfl
  |cons c l ih=>
   unfold Lib.indexByte;by_cases hc:c=47
   ·subst hc;simp [jP]
   ·have B:¬(c == 47)=true:=by simpa using hc
    have C:(c != 47)=true:=by simp [hc]
    rw[if_neg B,ih];by_cases hm:(47:UInt8)∈l
    ·have A:(47:UInt8)∈c::l:=List.mem_cons_of_mem _ hm;have D:¬(((jP l).length:Int) == -1)=true:=by simp
     rw[if_pos hm,if_pos A,if_neg D];unfold jP;rw[List.takeWhile_cons,if_pos C];simp
    ·have A:(47:UInt8)∉c::l:=by
        intro h;rcases List.mem_cons.1 h with e|e
        ·exact hc e.symm
        ·exact hm e
     rw[if_neg hm,if_neg A];rfl
theorem firstc_take(l:List UInt8):l.take (jP l).length=jP l:=by
  conv=>lhs;arg 2;rw[←Kj l]
  exact List.take_left
theorem firstc_drop(l:List UInt8):l.drop (jP l).length=restc l:=by
  conv=>lhs;arg 2;rw[←Kj l]
  exact List.drop_left
theorem firstc_le(l:List UInt8):(jP l).length≤l.length:=by
  have:=congrArg List.length (Kj l);simp at this;omega
theorem restc_none{l:List UInt8}(h:(47:UInt8)∉l):restc l=[]:=by
  have:=Kj l;rw[Zp h] at this;have:=congrArg List.length this;simp at this;exact this
theorem clashes_no{t:List UInt8}{taken:List (List UInt8)}(h:∀j (hj:j<taken.length),ZC t taken[j]=false):KI t taken=false:=by
  unfold KI;rw[List.any_eq_false];intro x A;obtain⟨j,hj,rfl⟩:=List.getElem_of_mem A;simp [h j hj]
theorem clashes_yes{t:List UInt8}{taken:List (List UInt8)}{j:Nat}(hj:j<taken.length)(h:ZC t taken[j]=true):KI t taken=true:=by
  unfold KI;rw[List.any_eq_true];exact⟨_,List.getElem_mem hj,h⟩
theorem UE{k:Nat}(h:k<100):(Lib.decDigits k).length≤2:=by
  by_cases h1:k<10
  ·rw[Lib.decDigits_one h1];simp
  ·rw[Lib.decDigits_two h1 h];simp
structure Trying (s:ByteArray) (taken:List (List UInt8)) (k f:Nat) (t:ByteArray):Prop where
  one:1≤k
  sum:k+f=taken.length+3
  size:t.size≤s.size+4
  is:vD (L s) taken=vr (L s) taken f k (L t)
  cand:2≤k→L t=Zq (L s) (k - 1)
  behind:∀j,1≤j→j+1<k→KI (Zq (L s) j) taken=true
theorem Trying.start(s:ByteArray)(taken:List (List UInt8)):Trying s taken 1 (taken.length+2) s:=
  ⟨by omega,by omega,by omega,rfl,fun h=>absurd h yz,fun j B A=>absurd A yz⟩
theorem Trying.left{s t:ByteArray}{taken:List (List UInt8)}{k f:Nat}(h:Trying s taken k f t):∃g,f=g+1∧k≤taken.length+2:=by
  have:=cand_few (l:=L s) (taken:=taken) (m:=k - 2) (fun j A B=>h.behind j A yz);have:=h.sum;exact⟨f - 1,by omega,by omega⟩
theorem Trying.next{s t t':ByteArray}{taken:List (List UInt8)}{k f:Nat}(h:Trying s taken k (f+1) t)(hc:KI (L t) taken=true)(ht:L t'=Zq (L s) k)(hz:t'.size≤s.size+4):Trying s taken (k+1) f t':=by
  have B:=h.one;refine⟨by omega,by have:=h.sum;omega,hz,?_,fun _=>by rw[Nat.add_sub_cancel];exact ht,fun j A C=>?_⟩
  ·rw[h.is,vr,if_pos hc,ht]
  ·rcases (by omega:j+1<k∨j=k - 1) with a|a
   ·exact h.behind j A a
   ·subst a;rw[←h.cand yz];exact hc
theorem Trying.done{s t:ByteArray}{taken:List (List UInt8)}{k f:Nat}(h:Trying s taken k (f+1) t)(hc:KI (L t) taken=false):L t=vD (L s) taken:=by
  rw[h.is,vr,if_neg (by rw[hc];simp)]
theorem fresh_any(s:ByteArray)(taken:List ByteArray)(A:Option Addr)(c:Nat)(w:World)(hs:s.size≤1099511627776)(hn:taken.length≤97)(hsm:smallL taken)
    (hsl:Sl w w.heap.size A taken.length 1 (strs taken)):
    Calls prog 79 #[.string s,.slice A taken.length c] w fun e w'=>Below w.heap.size w w'∧∃t:ByteArray,e=.returned (.string t)∧L t=vD (L s) (Ls taken):=by
  have U:=indexByte_first (L s);have y:=firstc_le (L s);have V:=firstc_take (L s);have W:=firstc_drop (L s);rw[ji] at y;have N:=hid hsl;clear hsl;have O:=hid hsm;clear hsm;have E:=hid V;clear V;have F:=hid W;clear W;have G:=hid U;clear U;generalize hm:(jP (L s)).length=m at *;have HM:=hid hm;clear hm;go_enter func79,ntmps79
  go_wp2
  go_step3;go_wp2_with fail;refine(Tryz.strings_IndexByte s 47 _).mono ?_;rintro e R ⟨rfl,hw⟩;obtain rfl:R=w:=hw;obtain⟨q,z,X⟩:∃q:Int,Lib.indexByte s.data.toList (47:Int).toNat.toUInt8=q∧((47:UInt8)∈L s∧q=m∨(47:UInt8)∉L s∧q= -1):=by
    refine⟨_,rfl,?_⟩;rw[show Lib.indexByte s.data.toList (47:Int).toNat.toUInt8=_ from G.out];by_cases h:(47:UInt8)∈L s
    ·left;exact⟨h,by rw[if_pos h]⟩
    ·right;exact⟨h,by rw[if_neg h]⟩
  rw[z];clear z;have H:=hid X;clear X
  go_upto_if 16 with fail
  go_cut [5,6] (fun s5 s6 wx=>∃f r:ByteArray,s5=.string f∧s6=.string r∧L f=jP (L s)∧L r=restc (L s)∧Below R.heap.size R wx)
  case first=>
    rcases H.out with⟨hsl,rfl⟩|⟨hsl,rfl⟩
    ·have J:=hid hsl;clear hsl;have A6:(0:Int)≤(m:Int):=by omega
     have A7:(m:Int)≤(s.size:Int):=by omega
     go_wp2_with fail
     go_quiet (fail)
     go_wp2_with fail
     go_meet
     refine⟨_,_,rfl,rfl,?_,?_,below_drewN (Below.refl _ _) _⟩
     ·rw[show L (s.extract 0 m)=(L s).take m from Lib.extract_from_zero s m];exact E.out
     ·rw[show L (s.extract m s.size)=(L s).drop m from Lib.extract_to_end s m];exact F.out
    ·have J:=hid hsl;clear hsl;go_wp2_with fail
     go_meet
     exact⟨s,⟨#[]⟩,rfl,rfl,(Zp J.out).symm,(restc_none J.out).symm,Below.refl _ _⟩
  case rest=>
    obtain⟨f,r,rfl,rfl,l,n,A0⟩:=hcut;have A8:f.size≤s.size:=by
      have D:=firstc_le (L s);rw[←ji,←ji,l];exact D
    have A9:r.size≤s.size:=by
      have D:=congrArg List.length (Kj (L s));rw[List.length_append] at D;rw[←ji,←ji,n];omega
    have P:=hid l;clear l;have Q:=hid n;clear n;have Y:f.size+r.size=s.size:=by
      have D:=congrArg List.length (Kj (L s));rw[List.length_append,←P.out,←Q.out,ji,ji,ji] at D;exact D
    have x:=hid Y;clear Y;clear H G E F
    go_wp2
    go_step3
    go_wp2
    go_loopg [8,9] (taken.length+2) (fun g s8 s9 wr=>∃(k:Nat) (t:ByteArray),s9=.int .i64 k∧s8=.string t∧1≤k∧k≤100∧Below R.heap.size R wr∧t.size≤s.size+4∧Hid (Trying s (Ls taken) k g t))
    case atStart=>exact⟨1,s,rfl,rfl,by omega,by omega,A0,by omega,hid (by have:=Trying.start s (Ls taken);rwa [show (Ls taken).length=taken.length by simp [Ls]] at this)⟩
    case round=>
      obtain⟨k,t,rfl,rfl,Aa,A4,S,Ab,p⟩:=hrel;obtain⟨g,rfl,T⟩:=p.left;have A5:k≤taken.length+2:=by rw[show (Ls taken).length=taken.length by simp [Ls]] at T;exact T
      clear T;obtain⟨u,A1⟩:∃u:World,u=wr:=⟨_,rfl⟩;subst A1
      go_wp2
      go_loopg [8,28] taken.length (fun h s8 s28 wy=>∃i:Nat,i+h=taken.length∧s8=.string t∧s28=.int .i64 i∧wy=u∧Hid (∀j (M:j<(Ls taken).length),j<i→ZC (L t) (Ls taken)[j]=false))
      case atStart=>exact⟨0,by omega,rfl,rfl,rfl,hid fun j _ M=>absurd M yz⟩
      case round=>
        obtain⟨i,hi,rfl,rfl,A2,hI⟩:=hrel;subst A2;by_cases hlt:i<taken.length
        ·obtain⟨b,Ac,rfl,Ad,C⟩:=(N.keep S).2 yz;have hc:=C i (.string taken[i]) (by simp [strs,hlt]);have Z:taken[i].size≤140737488355328:=O.out _ (List.getElem_mem hlt);have a:(Ls taken)[i]'(by simp [Ls];exact hlt)=L taken[i]:=by simp [Ls]
         have I:=hid a;clear a C;generalize hoi:taken[i]=o at *;clear hoi;cases C:ZC (L t) (L o)
         ·have B:=hid C;clear C
          go_wp2_with (go_at_call 14;refine(clash_any t o _ yz Z).mono ?_;rw[B.out];rintro e w2 ⟨rfl,rfl⟩)
          go_roundg (taken.length - (i+1))
          case measure=>omega
          case rel=>
            refine⟨i+1,by omega,rfl,by go_num,rfl,hid fun j M Ae=>?_⟩;rcases (by omega:j<i∨j=i) with h|h
            ·exact hI.out j M h
            ·subst h;rw[I.out];exact B.out
         ·have B:=hid C;clear C;have Af:=UE (k:=k) yz
          go_wp2_with (first|(go_at_call 14;refine(clash_any t o _ yz Z).mono ?_;rw[B.out];rintro e w2 ⟨rfl,rfl⟩)|(go_at_call 131;refine(Tryz.strconv_Itoa_small k yz _).mono ?_;rintro e w2 ⟨rfl,rfl⟩))
          have K:L (f++⟨#[126]⟩++⟨(Lib.decDigits k).toArray⟩++r)=Zq (L s) k:=by
            rw[L_app,L_app,L_app,P.out,Q.out];rfl
          have d:(f++⟨#[126]⟩++⟨(Lib.decDigits k).toArray⟩++r).size≤s.size+4:=by
            have D:=congrArg List.length K;have h2:=congrArg List.length (Kj (L s));rw[ji] at D;rw[List.length_append,ji] at h2;rw[D];simp only[Zq,List.length_append,List.length_cons,List.length_nil];omega
          go_roundg g
          case measure=>omega
          case rel=>
            have v:KI (L t) (Ls taken)=true:=clashes_yes (j:=i) (by simp [Ls];exact hlt) (by rw[I.out];exact B.out);exact⟨k+1,_,by go_num,rfl,by omega,by omega,S,d,hid (p.next v K d)⟩
        ·go_wp2_with fail
         try rw[Exit.noGoto_ret]
         go_ret
         have A3:KI (L t) (Ls taken)=false:=clashes_no fun j M=>hI.out j M (by have:(Ls taken).length=taken.length:=by simp [Ls]
                                                                               omega)
         exact⟨S,t,rfl,p.done A3⟩
end
section
open Go.RowKit
theorem own:ownKnob prog.godebug=none:=by kernel_rfl
theorem laidOut:laidOutB prog=true:=by kernel_rfl
theorem glob0{W:World}(h:W.ShapedOpen prog):∃m:Int,W.cell? ⟨0,0,none⟩=some (.int .i64 m):=
  cell_of_shapedOpen_int (zero:=#[.int .i64 0]) (t:=3) h (of_decide_eq_true yy) yy rfl yy yy underlying3
theorem witness_laid{H:Type}{enc:TypeId×Value→H}{C:Checked}{os:Os}{f:FuncId}{fn:Func}{s:OpenSpec}{conds:List PathCond}{apart:Bool}{laid:List (String×DataW Unit)}(w0:World)(args:Array Value)(hos:w0.os=os)
    (hsh:(w0.forCall (fun _ _=>0) ⟨#[],args,[]⟩).Shaped C.prog)
    (hok:Input.okWideB C.prog (w0.forCall (fun _ _=>0) ⟨#[],args,[]⟩) f ⟨#[],args,[]⟩=true)
    (hrow:s.preRow enc C.prog fn conds apart laid (w0.forCall (fun _ _=>0) ⟨#[],args,[]⟩).memory args):
    ∃(w:World) (tape:Tape) (i:Input),w.os=os∧(w.forCall tape i).Shaped C.prog∧i.vars=[]∧Input.okWide C.prog (w.forCall tape i) .any w.heap.size f i∧
     s.preRow enc C.prog fn conds apart laid (w.forCall tape i).memory i.args∧({}:Assume).holds C.prog (lone (Frame.enter C.prog f i.args .normal) [] (w.forCall tape i)):=
  ⟨w0,fun _ _=>0,⟨#[],args,[]⟩,hos,hsh,(Input.okWide_of_okWideB (base:=0) hok).1,(Input.okWide_of_okWideB hok).2,hrow,by
    simp only[Assume.holds];exact⟨by simp,by simp,fun _=>Modest.zero,by simp,by simp⟩⟩
end
section
open Go.ChangeShapes Go.WideShapes Go.ChangeAt Go.RowKit
theorem addr_add(b off k:Nat):(⟨b,off,none⟩:Addr).add k=⟨b,off+k,none⟩:=by unfold Addr.add;split<;>simp_all
end
section
open Go.RowKit Go.ChangeShapes Go.WideShapes Go.ChangeAt
section
variable {α:Type} {enc:α→List Value} {sz:Nat}
def ke(enc:α→List Value)(l:List α):List Value:=l.flatMap enc
theorem jc:∀{l:List α},(∀x∈l,(enc x).length=sz)→(ke enc l).length=l.length*sz
  | [],_=>by simp [ke]
  |a::l,h=>by
   have h1:=h a yq;have A:=jc (l:=l) fun x B=>h x (by simp [B])
   simp only[ke,List.flatMap_cons,List.length_append,List.length_cons] at A ⊢;rw[h1,A,Nat.add_mul];omega
theorem Z7(a b:List α):ke enc (a++b)=ke enc a++ke enc b:=by simp [ke]
theorem K9:∀{l:List α},(∀x∈l,(enc x).length=sz)→∀(i:Nat) (h:i<l.length) (j:Nat) (u:Value),(enc l[i])[j]?=some u→(ke enc l)[i*sz+j]?=some u
  | [],_,_,h,_,_,_=>by cases h
  |a::l,ho,0,_,j,u,hj=>by
   have A:(enc a).length=sz:=ho a yq;have B:=(List.getElem?_eq_some_iff.1 hj).1;simp only[ke,List.flatMap_cons,Nat.zero_mul,Nat.zero_add];rw[List.getElem?_append_left (by simpa using B)];exact hj
  |a::l,ho,i+1,h,j,u,hj=>by
   have A:(enc a).length=sz:=ho a yq;have:=K9 (l:=l) (fun x C=>ho x (by simp [C])) i (by simpa using h) j u (by simpa using hj);simp only[ke,List.flatMap_cons] at this ⊢;rw[List.getElem?_append_right (by rw[A,Nat.add_mul];omega),A,show (i+1)*sz+j - sz=i*sz+j by rw[Nat.add_mul];omega];exact this
theorem Sl.row{w:World}{b off:Nat}{l:List α}(ho:∀x∈l,(enc x).length=sz)(h:∀j u,(ke enc l)[j]?=some u→w.cell? ⟨b,off+j,none⟩=some u){i:Nat}(hi:i<l.length):∀j u,(enc l[i])[j]?=some u→w.cell? ⟨b,off+i*sz+j,none⟩=some u:=by
  intro j u A;rw[Nat.add_assoc];exact h _ _ (K9 ho i hi j u A)
end
theorem open_rows{H:Type}{encH:TypeId×Value→H}{P:Program}{W:World}{t e:TypeId}{α:Type}[Inhabited α]{enc:α→List Value}{ok:α→Prop}{sz:Nat}(ht:P.underlying t=some (.slice e))(hce:P.cellsOf e=sz)(hsz:0<sz)(hlen:∀x,ok x→(enc x).length=sz)
    (dec:∀n cs x,DataW.trod encH P W 0 (fun _=>true) true n e cs=some x→∃c:α,ok c∧cs=enc c)
    {a:Option Addr} {len cap:Nat} {d:DataW H} {ps:List MemPlace} (h:DataW.Trod encH P W 0 (fun _=>true) true t (.slice a len cap) d ps):
    ∃l:List α,l.length=len∧len≤maxLen∧len≤cap∧(∀c∈l,ok c)∧Sl W W.heap.size a l.length sz (ke enc l):=by
  obtain⟨s,w⟩:=h;rcases Go.Deep.open_slice ht w with⟨B,_⟩|⟨x,ln,c,m,n,D,Pl,B,_,y,hm,X,A0,z⟩
  ·simp [Value.cells] at B;obtain⟨rfl,rfl,rfl⟩:=B;exact⟨[],rfl,by unfold maxLen;omega,by omega,fun t ht=>absurd ht yq,Sl.nil⟩
  ·simp [Value.cells] at B;obtain⟨rfl,rfl,rfl⟩:=B;have Y:m=cap:=by simpa using X
   subst Y;have T:∀i,i<len→∃q:α,ok q∧W.cells? 0 (x.add (i*sz)) sz=some (enc q):=by
     intro i C;obtain⟨A1,Z,h2⟩:=z i yz;obtain⟨q,hq,rfl⟩:=dec _ _ _ h2;rw[hce] at Z;exact⟨q,hq,Z⟩
   obtain⟨F,O⟩:=Go.Deep.choose_lt T;have R:∀c∈(List.range len).map F,ok c:=by
     intro c E;obtain⟨i,C,rfl⟩:=List.mem_map.1 E;exact(O i (by simpa using C)).1
   have A:∀c∈(List.range len).map F,(enc c).length=sz:=fun c E=>hlen c (R c E)
   refine⟨(List.range len).map F,by simp,by omega,y,R,jc A,fun U=>?_⟩;have I:((List.range len).map F).length=len:=by simp
   rw[I] at U;obtain⟨b,J,K⟩:=x;have G:∀i,i<len→∀k,k<sz→W.cell? ((⟨b,J,K⟩:Addr).add (i*sz+k))=(enc (F i))[k]?:=by
     intro i C k Q;obtain⟨_,r,E⟩:=World.cells?_some (O i C).2;have:=E k Q;rw[Go.Deep.add_add] at this;exact this
   have L:=G 0 U 0 hsz;have M:∃v,(enc (F 0))[0]?=some v:=⟨_,List.getElem?_eq_getElem (by rw[hlen _ (O 0 U).1];exact hsz)⟩;obtain⟨v0,M⟩:=M;rw[M] at L;obtain rfl:K=none:=by simpa [Addr.add] using World.cell?_spot L
   have V:b<W.heap.size:=by
     have N:W.cell? ⟨b,J,none⟩=some v0:=by simpa [Addr.add] using L
     rcases Nat.lt_or_ge b W.heap.size with q|q
     ·exact q
     ·unfold World.cell? at N;rw[Array.getElem?_eq_none q] at N;cases N
   refine⟨b,J,rfl,V,fun j u f=>?_⟩;have g:=(List.getElem?_eq_some_iff.1 f).1;rw[jc A,I] at g;have C:j / sz<len:=(Nat.div_lt_iff_lt_mul hsz).2 g;have Q:j % sz<sz:=Nat.mod_lt _ hsz;have S:j / sz*sz+j % sz=j:=by rw[Nat.mul_comm];exact Nat.div_add_mod j sz
   have E:=G (j / sz) C (j % sz) Q;rw[S,addr_add] at E;obtain⟨v,o⟩:∃v,(enc (F (j / sz)))[j % sz]?=some v:=⟨_,List.getElem?_eq_getElem (by rw[hlen _ (O _ C).1];exact Q)⟩;have p:=K9 A (j / sz) (by rw[I];exact C) (j % sz) v (by simpa using o);rw[S,f] at p;rw[E,o,Option.some.inj p]
end
section
open Go.RowKit
theorem run_copy_rowN{P:Program}(w:World)(dT sT ty elem:TypeId)(sz g o dLen dCap:Nat)(a:Addr)(sLen sCap:Nat)(cur:Array Value)(t:TypeId)(cs:List Value)
    (hu:P.underlying dT=some (.slice elem)) (hs:(P.info? elem).map (·.size)=some sz)
    (hg:w.heap[g]?=some (.cells cur t (0,0))) (hn:cs.length=Nat.min sLen dLen*sz)
    (hsrc:∀j v,cs[j]?=some v→w.cell? (a.add j)=some v) (hfit:o+cs.length≤cur.size) (h1:∀v∈cs,v.oneCell'=true):
    (Builtin.copy_ #[dT,sT] ty #[.slice (some ⟨g,o,none⟩) dLen dCap,.slice (some a) sLen sCap]).run P w=
      .ok (goInt (Nat.min sLen dLen)) (w.setRow g (cur.toList.take o++cs++cur.toList.drop (o+cs.length)).toArray):=by
  have B:=run_loadCells_list (P:=P) w a cs hsrc;have A:=run_storeCells_at P g o t cs 0 cur w hg (by simpa using hfit) h1;cases hq:P.info? elem with
  |none=>simp [hq] at hs
  |some i=>
   have C:i.size=sz:=by simpa [hq] using hs
   simp [Builtin.copy_,run_underlying hu,Builtin.lenOf,Builtin.firstCells,sizeOf,typeInfo,hq,C,←hn,B,A]
theorem KJ{w:World}{B sz n:Nat}{e:TypeId}{v:Value}{xs:List Value}(h:w.ownsRow B e sz v n xs)(hn:0<n):
    ∃g A tail,v=.slice (some ⟨g,0,none⟩) n A∧B≤g∧w.heap[g]?=some (.cells (xs++tail).toArray e (0,0))∧n≤A∧A≤maxLen∧tail.length=(A - n)*sz:=by
  obtain⟨L,D⟩:=h;rcases D with⟨_,M⟩|⟨g,A,C,E,F,G,H,I,J,K⟩
  ·omega
  ·refine⟨g,A,C.toList.drop (n*sz),E,F,?_,H,I,?_⟩
   ·rw[←K,List.take_append_drop];simpa using G
   ·rw[List.length_drop,Array.length_toList,J,Nat.sub_mul]
theorem qv{w:World}{B sz n g cap:Nat}{e:TypeId}{xs tail:List Value}(hl:xs.length=n*sz)(hB:B≤g)(hg:w.heap[g]?=some (.cells (xs++tail).toArray e (0,0)))(hc:n≤cap)(hm:cap≤maxLen)(ht:tail.length=(cap - n)*sz):
    w.ownsRow B e sz (.slice (some ⟨g,0,none⟩) n cap) n xs:=by
  refine⟨hl,.inr ⟨g,cap,(xs++tail).toArray,rfl,hB,hg,hc,hm,?_,?_⟩⟩
  ·rw[List.size_toArray,List.length_append,hl,ht,←Nat.add_mul,show n+(cap - n)=cap by omega]
  ·show (xs++tail).take (n*sz)=xs;rw[←hl,List.take_left]
section
variable {α:Type} {enc:α→List Value} {sz:Nat}
theorem rowsV_drop{l:List α}(ho:∀x∈l,(enc x).length=sz){i:Nat}(hi:i≤l.length):ke enc (l.drop i)=(ke enc l).drop (i*sz):=by
  have A:(ke enc (l.take i)).length=i*sz:=by
    rw[jc fun x B=>ho x (List.mem_of_mem_take B),List.length_take,Nat.min_eq_left hi]
  have C:ke enc l=ke enc (l.take i)++ke enc (l.drop i):=by rw[←Z7,List.take_append_drop]
  rw[C,←A,List.drop_left]
theorem shift_rows{l:List α}(ho:∀x∈l,(enc x).length=sz){i:Nat}(hi:i≤l.length){z tail:List Value}(hz:z.length=sz):
    ∃m,m.length=sz∧((ke enc l++z)++tail).take ((i+1)*sz)++ke enc (l.drop i)++((ke enc l++z)++tail).drop ((i+1)*sz+(ke enc (l.drop i)).length)=ke enc (l.take i)++(m++(ke enc (l.drop i)++tail)):=by
  have B:=jc ho;have E:(ke enc (l.drop i)).length=(l.length - i)*sz:=by rw[jc fun x A=>ho x (List.mem_of_mem_drop A),List.length_drop]
  have C:(ke enc (l.take i)).length=i*sz:=by rw[jc fun x A=>ho x (List.mem_of_mem_take A),List.length_take,Nat.min_eq_left hi]
  have D:(i+1)*sz≤(ke enc l++z).length:=by
    rw[List.length_append,B,hz,←Nat.succ_mul];exact Nat.mul_le_mul_right _ yz
  have F:ke enc l=ke enc (l.take i)++ke enc (l.drop i):=by rw[←Z7,List.take_append_drop]
  refine⟨((ke enc (l.drop i)++z)).take sz,?_,?_⟩
  ·rw[List.length_take,List.length_append,hz];omega
  ·have G:((ke enc l++z)++tail).take ((i+1)*sz)=ke enc (l.take i)++(ke enc (l.drop i)++z).take sz:=by
     rw[List.take_append_of_le_length D,F,List.append_assoc,List.take_append,C,show (i+1)*sz - i*sz=sz by rw[Nat.succ_mul];omega,List.take_of_length_le (by rw[C,Nat.succ_mul];omega)]
   have H:((ke enc l++z)++tail).drop ((i+1)*sz+(ke enc (l.drop i)).length)=tail:=by
     have:(i+1)*sz+(ke enc (l.drop i)).length=(ke enc l++z).length:=by
       rw[List.length_append,B,hz,E,←Nat.succ_mul,←Nat.add_mul]
       congr 1
       omega
     rw[this,List.drop_left]
   rw[G,H];simp only[List.append_assoc]
end
end
section
open Go.RowKit Go.Sort
def Gr(w w':World):Prop:=∃q os,w'=grow (w.drewN q) os
theorem Gr.refl(w:World):Gr w w:=⟨0,#[],by rw[grow_empty];rfl⟩
theorem Gr.trans{a b c:World}(h:Gr a b)(k:Gr b c):Gr a c:=by
  obtain⟨q,A,rfl⟩:=h;obtain⟨B,C,rfl⟩:=k;refine⟨q+B,A++C,?_⟩;rw[show (grow (a.drewN q) A).drewN B=grow ((a.drewN q).drewN B) A from rfl,grow_grow,World.drewN_drewN]
theorem Gr.alloc{a b:World}(h:Gr a b)(o:Obj):Gr a (b.alloc o):=h.trans ⟨0,#[o],by rw[alloc_eq_grow];rfl⟩
theorem Gr.drewN{a b:World}(h:Gr a b)(q:Nat):Gr a (b.drewN q):=h.trans ⟨q,#[],by rw[grow_empty]⟩
theorem Gr.drew{a b:World}(h:Gr a b):Gr a b.drew:=h.drewN 1
theorem Gr.below{a b:World}(h:Gr a b):Below a.heap.size a b:=by
  obtain⟨q,A,rfl⟩:=h;refine⟨rfl,rfl,rfl,by simp [grow,World.drewN],fun k B=>?_⟩;show (a.heap++A)[k]?=_;rw[Array.getElem?_append_left B]
end
section
open Go.RowKit
theorem own_iter_ne{w:World}{base:Nat}{e:TypeId}{sz:Nat}{v:Value}{n:Nat}{xs:List Value}(h:w.ownsRow base e sz v n xs){k:Nat}{s:ByteArray}{p:Nat}(hk:w.heap[k]?=some (.stringIter s p)):v.ownBlock≠some k:=by
  intro A;rcases h.2 with⟨C,_⟩|⟨g,E,F,B,_,D,_⟩
  ·rw[C] at A;simp [Value.ownBlock] at A
  ·rw[B] at A;have:g=k:=by simpa [Value.ownBlock] using A
   subst this;rw[D] at hk;cases hk
theorem uk{w:World}{base:Nat}{e:TypeId}{sz:Nat}{v:Value}{n:Nat}{xs:List Value}(h:w.ownsRow base e sz v n xs){k:Nat}{s:ByteArray}{p:Nat}(hk:w.heap[k]?=some (.stringIter s p))(p':Nat):(w.iterAt k s p').ownsRow base e sz v n xs:=by
  have A:=own_iter_ne h hk;refine h.kept (row:=some k) ⟨rfl,rfl,rfl,by rw[Lib.iterAt_size];exact Nat.le_refl _,fun j C B=>Lib.iterAt_other w k j s p' (fun e=>B (by rw[e]))⟩ (.inr A)
def QK(z:Nat)(v v':Value):Prop:=v'.ownBlock=v.ownBlock∨∃g,v'.ownBlock=some g∧z≤g
section
variable {P:Program} {w w':World}
theorem vV(base:Nat)(t ty e:TypeId)(i:TypeInfo)(z:Value)(size bytes:Nat)(ht:P.underlying t=some (.slice e))(hi:P.info? e=some i)(hz:i.zero=some z)
    (hsize:i.size=size) (hby:i.bytes=bytes) (hzs:z.cells.size=size) (hsz:0<size)
    (v:Value) (n:Nat) (xs:List Value) (hown:w.ownsRow base e size v n xs)
    (a:Addr) (m c:Nat) (news:List Value) (hl:news.length=m*size) (hnews:∀j u,news[j]?=some u→w.cell? (a.add j)=some u) (h1:∀u∈news,u.oneCell'=true)
    (h63:n+m≤maxLen) (hbytes:(n+m)*bytes≤140737488355328) {v':Value} (hr:(Builtin.append_ #[t,t] ty #[v,.slice (some a) m c]).run P w=.ok v' w'):QK w.heap.size v v':=by
  subst hsize;subst hby;have F:n+m≤9223372036854775807:=by simp only[maxLen] at h63;omega
  rcases hown.2 with⟨rfl,rfl⟩|⟨g,B,D,rfl,L,I,M,N,G,H⟩
  ·by_cases hm:m=0
   ·subst hm;have J:news=[]:=List.eq_nil_of_length_eq_zero (by simpa using hl);subst J;have A:(Builtin.append_ #[t,t] ty #[.slice none 0 0,.slice (some a) 0 c]).run P w=.ok (.slice none 0 0) w:=by
      simp [Builtin.append_,run_underlying ht,sizeOf,typeInfo,hi,Builtin.lenOf,Builtin.firstCells,loadCells,loadCellsFrom]
    rw[A] at hr;injection hr with hr _;rw[←hr];exact .inl rfl
   ·have A:=run_append_nil (P:=P) w t ty e i z ht hi hz a m c news hl hnews yz yz (by have K:=hbytes;simp only[Nat.zero_add] at K;omega);rw[A] at hr;injection hr with hr _;rw[←hr];exact .inr ⟨_,rfl,Nat.le_refl _⟩
  ·by_cases hroom:n+m≤B
   ·have E:n*i.size+news.length≤D.size:=by rw[hl,G,←Nat.add_mul];exact Nat.mul_le_mul_right _ hroom
    have A:=run_append_room (P:=P) w t ty e i ht hi g n B D I a m c news hl hnews h1 hroom E;rw[A] at hr;injection hr with hr _;rw[←hr];exact .inl rfl
   ·have C:∀j u,xs[j]?=some u→w.cell? ((⟨g,0,none⟩:Addr).add j)=some u:=hown.cells (g:=g) rfl;have A:=run_append_grow (P:=P) w t ty e i z ht hi hz ⟨g,0,none⟩ n B xs hown.1 C a m c news hl hnews yz yz (growslice_fits yz hbytes);rw[A] at hr;injection hr with hr _;rw[←hr];exact .inr ⟨_,rfl,Nat.le_refl _⟩
end
end
section
open Go.RowKit Go.Maps
structure KeyEnc (P:Program) (K:TypeId) {κ:Type} (ok:κ→Prop) (val:κ→Value) (kl:κ→Lit):Prop where
  keyed:Keyed P K
  of:∀k,ok k→keyOf P K (val k)=some (kl k)
  inj:∀a b,val a=val b→a=b
def Rv(v:Value):Option (DataW Value×List MemPlace):=some (.held v,[])
def MapK{κ:Type}(ok:κ→Prop)(kl:κ→Lit)(D:DataW Value):Prop:=IsMap D∧∀l,has D l=true→∃k,ok k∧l=kl k
def MapV(w:World)(P:Program)(K:TypeId){κ:Type}(ok:κ→Prop)(kl:κ→Lit)(b n:Nat)(m:κ→Option Value):Prop:=
  ∃D:DataW Value,w.ownsMap P K Rv b n D∧MapK ok kl D∧(∀k,ok k→has D (kl k)=(m k).isSome)∧∀k v,ok k→m k=some v→∀z,D.atKey (kl k) z=.held v
section
variable {P:Program} {K:TypeId} {κ:Type} {ok:κ→Prop} {val:κ→Value} {kl:κ→Lit} {w:World} {b n:Nat} {m:κ→Option Value}
theorem KeyEnc.klInj(E:KeyEnc P K ok val kl){x y:κ}(hx:ok x)(hy:ok y)(h:kl x=kl y):x=y:=
  E.inj _ _ (E.keyed.inj (E.of x hx) (by rw[h];exact E.of y hy))
theorem MapV.made(w:World)(P:Program)(K:TypeId)(ok:κ→Prop)(kl:κ→Lit):MapV (w.alloc (.map #[] 0)) P K ok kl w.heap.size 0 (fun _=>none):=
  ⟨.map [],World.ownsMap_made w P K Rv,⟨isMap_empty,fun l h=>by cases h⟩,fun _ _=>rfl,fun _ _ _ h=>by cases h⟩
theorem MapV.lt(h:MapV w P K ok kl b n m):b<w.heap.size:=by
  obtain⟨D,A,_⟩:=h;exact A.lt
theorem MapV.below{w':World}(h:MapV w P K ok kl b n m)(hb:Below w.heap.size w w'):MapV w' P K ok kl b n m:=by
  have B:=h.lt;obtain⟨D,E,G⟩:=h;obtain⟨H,A,C,F,I,J⟩:=E;exact⟨D,⟨H,A,(hb.block b B).trans C,F,I,J⟩,G⟩
theorem MapV.kept{w':World}{row:Option Nat}(h:MapV w P K ok kl b n m)(hg:w.grownBy w' row)(hne:some b≠row):MapV w' P K ok kl b n m:=by
  obtain⟨D,A,B⟩:=h;exact⟨D,A.kept hg hne,B⟩
theorem MapV.alloc(h:MapV w P K ok kl b n m)(o:Obj):MapV (w.alloc o) P K ok kl b n m:=by
  obtain⟨D,A,B⟩:=h;exact⟨D,A.alloc o,B⟩
theorem MapV.drew(h:MapV w P K ok kl b n m):MapV w.drew P K ok kl b n m:=by
  obtain⟨D,A,B⟩:=h;exact⟨D,A.drew,B⟩
theorem qw{D:DataW Value}(E:KeyEnc P K ok val kl)(hm0:MapK ok kl D)(h1:∀k,ok k→has D (kl k)=(m k).isSome)(h2:∀k v,ok k→m k=some v→∀z,D.atKey (kl k) z=.held v)[DecidableEq κ]{k0:κ}(hk:ok k0)(v0:Value):
    MapK ok kl (D.put (kl k0) (.held v0))∧(∀k,ok k→has (D.put (kl k0) (.held v0)) (kl k)=(if k=k0 then some v0 else m k).isSome)∧∀k v,ok k→(if k=k0 then some v0 else m k)=some v→∀z,(D.put (kl k0) (.held v0)).atKey (kl k) z=.held v:=by
  have A:=E.keyed.key (E.of k0 hk);have C:=hm0.1;refine⟨⟨C.put _ _,fun l G=>?_⟩,fun k B=>?_,fun k v B h z=>?_⟩
  ·by_cases e:l=kl k0
   ·exact⟨k0,hk,e⟩
   ·rw[has_put_other e] at G;exact hm0.2 l G
  ·by_cases e:k=k0
   ·subst e;rw[if_pos rfl,has_put_same C A];rfl
   ·rw[if_neg e,has_put_other (fun F=>e (E.klInj B hk F)),h1 k B]
  ·by_cases e:k=k0
   ·subst e;rw[if_pos rfl] at h;cases h
    exact atKey_put_same C A _ _
   ·rw[if_neg e] at h;rw[atKey_put_other (fun F=>e (E.klInj B hk F))];exact h2 k v B h z
theorem wp_mapPut{ops:Array Oper}{rest:List Oper}{o:Oper}{a:Act}{Q:Exit→Act→World→Prop}[DecidableEq κ](hg:o.guard=none)(mo x v:Operand)(t:TypeId)(hop:o.op=Op.mapUpdate t mo x v)
    (e:TypeId) (E:KeyEnc P K ok val kl) (ht:P.underlying t=some (.map K e)) (hm:a.eval mo=.map (some b)) (hown:MapV w P K ok kl b n m) (hn:n<maxLen) (k0:κ) (hk:ok k0) (hx:a.eval x=val k0) (v0:Value) (hv:a.eval v=v0)
    (h:∀w',MapV w' P K ok kl b (n+1) (fun k=>if k=k0 then some v0 else m k)→w.grownBy w' (some b)→wpList P ops Q rest (a.put o.dst undef) w'):
    wpList P ops Q (o::rest) a w:=by
  obtain⟨D,B,C,F,G⟩:=hown;refine wpList_mapUpdate_own w hg mo x v t hop K e E.keyed ht Rv b n D hm B hn (val k0) v0 (kl k0) hx hv (E.of k0 hk) (.held v0) [] rfl fun w' H A=>?_
  obtain⟨I,J,L⟩:=qw E C F G hk v0;exact h w' ⟨_,H,I,J,L⟩ A
theorem US{ops:Array Oper}{rest:List Oper}{o:Oper}{a:Act}{Q:Exit→Act→World→Prop}(hg:o.guard=none)(mo x:Operand)(t:TypeId)(hop:o.op=Op.lookup t mo x true)
    (e:TypeId) (E:KeyEnc P K ok val kl) (ht:P.underlying t=some (.map K e)) (z:Value) (hz:(zeroValue e).run P w=.ok z w) (hm:a.eval mo=.map (some b)) (hown:MapV w P K ok kl b n m) (k0:κ) (hk:ok k0) (hx:a.eval x=val k0)
    (h:wpList P ops Q rest (a.put o.dst (.tuple #[(m k0).getD z,.bool (m k0).isSome])) w):
    wpList P ops Q (o::rest) a w:=by
  obtain⟨D,F,J,B,G⟩:=hown;refine wpList_lookup_own_ok w hg mo x t hop K e E.keyed ht Rv hz (.held z) [] rfl b n D hm F (val k0) (kl k0) hx (E.of k0 hk) fun v L H=>?_
  rw[B k0 hk];have C:v=(m k0).getD z:=by
    have A:(DataW.held v:DataW Value)=D.atKey (kl k0) (.held z):=congrArg Prod.fst (Option.some.inj H);rcases hmk:m k0 with _ |u
    ·have I:has D (kl k0)=false:=by rw[B k0 hk,hmk];rfl
     rw[atKey_of_not_has I] at A;injection A
    ·rw[G k0 u hk hmk] at A;injection A
  rw[C];exact h
theorem ZW{ops:Array Oper}{rest:List Oper}{o:Oper}{a:Act}{Q:Exit→Act→World→Prop}(hg:o.guard=none)(mo x:Operand)(t:TypeId)(hop:o.op=Op.lookup t mo x false)
    (e:TypeId) (E:KeyEnc P K ok val kl) (ht:P.underlying t=some (.map K e)) (z:Value) (hz:(zeroValue e).run P w=.ok z w) (hm:a.eval mo=.map (some b)) (hown:MapV w P K ok kl b n m) (k0:κ) (hk:ok k0) (hx:a.eval x=val k0)
    (h:wpList P ops Q rest (a.put o.dst ((m k0).getD z)) w):
    wpList P ops Q (o::rest) a w:=by
  obtain⟨D,G,M,H,I⟩:=hown;refine wpList_plain hg fun N C=>?_
  obtain⟨v,O,B,J⟩:=G.lookup E.keyed ht hz (zd:=.held z) (zp:=[]) rfl (E.of k0 hk);have F:v=(m k0).getD z:=by
    have A:(DataW.held v:DataW Value)=D.atKey (kl k0) (.held z):=congrArg Prod.fst (Option.some.inj J);rcases hmk:m k0 with _ |u
    ·have L:has D (kl k0)=false:=by rw[H k0 hk,hmk];rfl
     rw[atKey_of_not_has L] at A;injection A
    ·rw[I k0 u hk hmk] at A;injection A
  subst F;unfold Oper.wp;simp [execOp,hop,hm,hx,B,Result.andThen];exact C _ _ h
end
end
section
open Go.RowKit
structure But (X:Nat→Prop) (w w':World):Prop where
  os:w'.os=w.os
  tape:w'.tape=w.tape
  output:w'.output=w.output
  size:w.heap.size≤w'.heap.size
  block:∀k,k<w.heap.size→¬X k→w'.heap[k]?=w.heap[k]?
def NoB(_:Nat):Prop:=False
section
variable {X Y:Nat→Prop} {a b c w w':World}
theorem But.refl(X:Nat→Prop)(w:World):But X w w:=⟨rfl,rfl,rfl,qR _,fun _ _ _=>rfl⟩
theorem But.trans(h:But X a b)(k:But Y b c)(hxy:∀i,i<a.heap.size→Y i→X i):But X a c:=
  ⟨k.os.trans h.os,k.tape.trans h.tape,k.output.trans h.output,qT h.size k.size,fun i A B=>(k.block i (qL A h.size) (fun C=>B (hxy i A C))).trans (h.block i A B)⟩
theorem But.weak(h:But X a b)(hxy:∀i,i<a.heap.size→X i→Y i):But Y a b:=⟨h.os,h.tape,h.output,h.size,fun i A B=>h.block i A fun C=>B (hxy i A C)⟩
theorem But.of_below(h:Below a.heap.size a b):But X a b:=⟨h.os,h.tape,h.output,h.size,fun k A _=>h.block k A⟩
theorem But.below{B:Nat}(h:But X a b)(hB:B≤a.heap.size)(hx:∀k,k<B→¬X k):Below B a b:=⟨h.os,h.tape,h.output,h.size,fun k A=>h.block k yz (hx k A)⟩
theorem But.andBelow(h:But X a b)(k:Below b.heap.size b c):But X a c:=h.trans (Y:=NoB) ⟨k.os,k.tape,k.output,k.size,fun i A _=>k.block i A⟩ fun _ _ q=>q.elim
theorem But.drew(h:But X a b):But X a b.drew:=⟨h.os,h.tape,h.output,h.size,h.block⟩
theorem But.alloc(h:But X a b)(o:Obj):But X a (b.alloc o):=h.andBelow ((qB _ _).alloc (qR _) o)
theorem But.setCell(h:But X a b){p:Addr}(hp:p.block<a.heap.size→X p.block)(u:Value):But X a (b.setCell p u):=
  ⟨h.os,h.tape,h.output,by simpa [World.setCell] using h.size,fun k A B=>(Below.heap_setCell _ _ _ _ (by rintro rfl;exact B (hp A))).trans (h.block k A B)⟩
theorem But.grown{row:Option Nat}(h:But X a b)(hg:b.grownBy c row)(hr:∀k,row=some k→k<a.heap.size→X k):But X a c:=
  h.trans (Y:=fun k=>row=some k) ⟨hg.os,hg.tape,hg.output,hg.size,fun k A B=>hg.block k A (fun e=>B e.symm)⟩ fun k A B=>hr k B A
theorem But.cell(h:But X a b){g j:Nat}(hg:g<a.heap.size)(hx:¬X g):b.cell? ⟨g,j,none⟩=a.cell? ⟨g,j,none⟩:=by
  unfold World.cell?;rw[h.block g hg hx]
theorem But.own{base n size:Nat}{e:TypeId}{v:Value}{xs:List Value}(h:But X a b)(ho:a.ownsRow base e size v n xs)(hx:∀g,v.ownBlock=some g→¬X g):b.ownsRow base e size v n xs:=by
  refine⟨ho.1,?_⟩;rcases ho.2 with D|⟨g,A,B,rfl,E,C,r⟩
  ·exact .inl D
  ·exact .inr ⟨g,A,B,rfl,E,(h.block g (qX C) (hx g rfl)).trans C,r⟩
theorem But.sl{B n sz:Nat}{A:Option Addr}{xs:List Value}(h:But X a b)(ho:Sl a B A n sz xs)(hB:B≤a.heap.size)(hx:∀k,k<B→¬X k):Sl b B A n sz xs:=ho.keep (h.below hB hx)
theorem But.map{P:Program}{K:TypeId}{κ:Type}{ok:κ→Prop}{kl:κ→Lit}{g n:Nat}{m:κ→Option Value}(h:But X a b)(hm:MapV a P K ok kl g n m)(hx:¬X g):MapV b P K ok kl g n m:=by
  have B:=hm.lt;obtain⟨D,E,G⟩:=hm;obtain⟨H,A,C,F,I,J⟩:=E;exact⟨D,⟨H,A,(h.block g B hx).trans C,F,I,J⟩,G⟩
end
theorem k4{w:World}{g:Nat}{cs:List Value}{t:TypeId}{fr:Nat×Nat}(h:w.heap[g]?=some (.cells cs.toArray t fr))(j:Nat):w.cell? ⟨g,j,none⟩=cs[j]?:=by
  rw[cell_of_row w g j _ t fr h];simp
theorem KM{P:Program}{ops:Array Oper}{rest:List Oper}{o:Oper}{a:Act}{Q:Exit→Act→World→Prop}{w:World}(hw:Region.wanted o (yielded ops a.tmps)=true)(s x:Operand)(t:TypeId)
    (ho:o.op=.call { callee:=.builtin .append,args:=#[s,x],argTypes:=#[t,t]})
    (base:Nat) (e:TypeId) (z:Value) (size bytes:Nat) (ht:P.underlying t=some (.slice e)) (hinf:(P.info? e).map (fun i=>(i.zero,i.size,i.bytes))=some (some z,size,bytes))
    (hz1:z.cells.size=size) (hsz:0<size) (v:Value) (n:Nat) (xs:List Value) (hs:a.eval s=v) (hown:w.ownsRow base e size v n xs)
    (A:Addr) (m c:Nat) (news:List Value) (hx:a.eval x=.slice (some A) m c) (hl:news.length=m*size) (hnews:∀j u,news[j]?=some u→w.cell? (A.add j)=some u) (h1:∀u∈news,u.oneCell'=true)
    (hn:n+m≤maxLen) (hb:(n+m)*bytes≤140737488355328) (hbase:base≤w.heap.size)
    (h:∀B w',w'.ownsRow base e size B (n+m) (xs++news)→w.grownBy w' v.ownBlock→QK w.heap.size v B→wpList P ops Q rest (a.put o.dst B) w'):
    wpList P ops Q (o::rest) a w:=by
  obtain⟨H,I,E,F,G⟩:=info_parts hinf;obtain⟨B,w',J,C,D,_⟩:=run_append_own (P:=P) w base t o.type e H z size bytes ht I E F G hz1 hsz v n xs hown A m c news hl hnews h1 hn hb hbase;have L:=vV (P:=P) (w:=w) base t o.type e H z size bytes ht I E F G hz1 hsz v n xs hown A m c news hl hnews h1 hn hb J;refine BigFrame.wpList_want hw fun K M=>?_
  unfold Oper.wp execOp;simp only[ho,resolve,invoke,builtin,Sem.run_bind,Sem.run_pure,Result.andThen_ok,List.map_toArray,List.map_cons,List.map_nil,hs,hx,J];exact M _ _ (h B w' C D L)
end
section
open Go.RowKit
open Lib (hid)
theorem info_i32:(prog.info? 21).map (fun i=>(i.zero,i.size,i.bytes))=some (some (.int .i32 0),1,4):=by kernel_rfl
def qy(l:List Nat):List Value:=l.map fun (r:Nat)=>Value.int .i32 (r:Int)
def RunesGives(s:ByteArray)(w:World)(e:Ending)(w':World):Prop:=
  Below w.heap.size w w'∧((∃l A c,jx s=some l∧e=.returned (.tuple #[.slice A l.length c,.int .i64 0,.int .i64 0])∧Sl w' w'.heap.size A l.length 1 (qy l))∨
    jx s=none∧∃n:Int,e=.returned (.tuple #[.slice none 0 0,.int .i64 n,.int .i64 5]))
theorem jd{w:World}{base:Nat}{e:TypeId}{sz:Nat}{v:Value}{n:Nat}{xs:List Value}(h:w.ownsRow base e sz v n xs):∃A c,v=.slice A n c:=by
  rcases h.2 with⟨B,C⟩|⟨g,D,E,B,_⟩
  ·exact⟨none,0,by rw[B,C]⟩
  ·exact⟨_,_,B⟩
theorem Ub(s:ByteArray)(w:World)(hs:s.size≤1099511627776):Calls prog 119 #[.string s] w (RunesGives s w):=by
  have L:s.size≤maxLen:=by unfold maxLen;omega
  go_enter func119,ntmps119
  go_wp2
  go_loopw [5,6] (fun v n wr=>∃(k:Nat) (l:List Nat),k≤s.size∧l.length≤k∧n=.int .i64 k∧wr.ownsRow w.heap.size 21 1 v l.length (qy l)∧Below w.heap.size w wr∧Hid (jx s=(jA s k).map (l++ ·))) (fun _ n _=>s.size - (intOf n).toNat)
  case atStart=>exact⟨0,[],by omega,by simp,rfl,World.ownsRow_nil _ _ _ _,Below.refl _ _,hid (by rw[ZQ];simp)⟩
  case round=>
    obtain⟨k,l,S,T,rfl,C,D,K⟩:=hrel;by_cases hlt:k<s.size
    ·have Q:=ZA hlt;go_wp2_with fail;refine(one_any s k _ hlt L).mono ?_;rintro e M ⟨B,⟨F,rfl⟩|⟨F,rfl⟩⟩
     ·have E:=hid F;clear F;have U:=decode_le s k;have G:Below w.heap.size w M:=D.trans (B.mono D.size);have I:M.ownsRow w.heap.size 21 1 u5 l.length (qy l):=by
        refine C.kept (row:=none) ⟨B.os,B.tape,B.output,B.size,fun j P _=>B.block j P⟩ ?_;rcases h:u5.ownBlock with _ |g
        ·exact .inl rfl
        ·exact .inr yq
      have R:(((Utf8.decode s k).2:Int) == 0)=false:=by simp;omega
      go_wp2_with (at_builtin;refine J3 rfl _ _ 175 rfl w.heap.size 21 (.int .i32 0) 4 underlying175 info_i32 rfl _ _ _ rfl I _ _ rfl rfl ?c1 ?c2 ?c3 ?_)
      case c1=>unfold maxLen;omega
      case c2=>omega
      case c3=>exact G.size
      intro V W J H;have N:=H _ _ (Nat.le_refl _) G;clear H;go_wp2_with fail
      go_roundw
      case rel=>
        refine⟨k+(Utf8.decode s k).2,l++[(Utf8.decode s k).1],by omega,by simp;omega,by go_num,?_,N,hid ?_⟩
        ·simpa [qy] using J
        ·rw[K.out,KE hlt E.out];cases jA s (k+(Utf8.decode s k).2)<;>simp
      case measure=>simp [intOf];omega
     ·have E:=hid F;clear F;go_wp2_with fail;go_ret3;refine⟨D.trans (B.mono D.size),.inr ⟨by rw[K.out,vp hlt E.out];rfl,_,rfl⟩⟩
    ·go_wp2_with fail;go_ret3;obtain⟨A,c,O⟩:=jd C;refine⟨D,.inl ⟨l,A,c,by rw[K.out,KB yz];simp,?_,?_⟩⟩
     ·rw[←O];rfl
     ·rw[O] at C;exact Sl.of_own C
theorem is_any(s:ByteArray)(w:World)(hs:s.size≤1099511627776):Calls prog 265 #[.string s] w fun e w'=>Below w.heap.size w w'∧e=.returned (.bool (KO s)):=by
  go_enter func265,ntmps265;go_wp2_with fail;refine(Ub s _ hs).mono ?_;rintro e F ⟨D,⟨l,A,c,C,rfl,E⟩|⟨C,n,rfl⟩⟩
  ·have B:=hid C;clear C;go_wp2_with fail;go_ret;exact⟨D,by unfold KO;rw[B.out];rfl⟩
  ·have B:=hid C;clear C;go_wp2_with fail;go_ret;exact⟨D,by unfold KO;rw[B.out];rfl⟩
def Kx(s:ByteArray):Int:=if 4096<s.size then 2 else if KO s then 0 else 5
theorem bytes_any(s:ByteArray)(w:World)(hs:s.size≤maxLen):Calls prog 252 #[.string s] w fun e w'=>w=w'∧e=.returned (.int .i64 (Kx s)):=by
  by_cases h:4096<s.size
  ·rw[show Kx s=2 by simp [Kx,h]];go_enter func252,ntmps252;go_wp2_with fail;go_ret;exact⟨rfl,rfl⟩
  ·go_enter func252,ntmps252;go_wp2_with fail;refine(Ua s _ hs).mono ?_;rintro e C ⟨rfl,⟨B,rfl⟩|⟨B,n,rfl⟩⟩
   ·have A:=hid B;clear B;go_wp2_with fail;go_ret;exact⟨rfl,by simp [Kx,h,A.out]⟩
   ·have A:=hid B;clear B;go_wp2_with fail;go_ret;exact⟨rfl,by simp [Kx,h,A.out]⟩
theorem J6(s:ByteArray)(w:World):Calls prog 264 #[.string s] w fun e w'=>Below w.heap.size w w'∧e=.returned (.int .i64 (Kx s)):=by
  by_cases h:4096<s.size
  ·rw[show Kx s=2 by simp [Kx,h]];go_enter func264,ntmps264;go_wp2_with fail;go_ret;exact⟨Below.refl _ _,rfl⟩
  ·have C:s.size≤1099511627776:=by omega
   go_enter func264,ntmps264;go_wp2_with fail;refine(is_any s _ C).mono ?_;rintro e D ⟨B,rfl⟩;cases ht:KO s
   ·have A:=hid ht;clear ht;go_wp2_with fail;go_ret;exact⟨B,by simp [Kx,h,A.out]⟩
   ·have A:=hid ht;clear ht;go_wp2_with fail;go_ret;exact⟨B,by simp [Kx,h,A.out]⟩
end
section
open Go.RowKit
abbrev zz:=kF×Value×List Nat×Bool
def ja(r:zz):List Value:=k8 r.1++([r.2.1]++[.bool r.2.2.2])
def kZ(r:zz):kX:=(r.1,r.2.2.1,r.2.2.2)
def RuneAt(w:World)(v:Value)(l:List Nat):Prop:=∃g off cap cur fr,v=.slice (some ⟨g,off,none⟩) l.length cap∧l.length≤cap∧cap≤maxLen∧w.heap[g]?=some (.cells cur 21 fr)∧∀j u,(qy l)[j]?=some u→cur[off+j]?=some u
def RunIn(w:World)(r:zz):Prop:=kN r.1∧RuneAt w r.2.1 r.2.2.1∧r.2.2.1≠[]
structure DocAt (w:World) (B p:Nat) (v:Value) (d:List kX):Prop where
  box:∃s t:Int,w.heap[p]?=some (.cells [v,.int .i64 s,.int .i64 t].toArray 192 (0,0))
  low:B≤p
  rows:∃rs:List zz,rs.map kZ=d∧(∀r∈rs,RunIn w r)∧w.ownsRow B 177 36 v rs.length (ke ja rs)
def DocX(p:Nat)(v:Value)(k:Nat):Prop:=k=p∨v.ownBlock=some k
def immB(t:TypeId):Bool:=t == 21 || t == 41 || t == 112 || t == 199
def KeepR(w w':World):Prop:=∀(k:Nat) (cur:Array Value) (t:TypeId) (fr:Nat×Nat),immB t=true→w.heap[k]?=some (.cells cur t fr)→w'.heap[k]?=w.heap[k]?
theorem jD{w:World}{r:zz}(h:RunIn w r):(ja r).length=36:=by
  simp [ja,k9 h.1]
theorem vW{w:World}{rs:List zz}(h:∀r∈rs,RunIn w r):∀r∈rs,(ja r).length=36:=fun r A=>jD (h r A)
theorem KX(r:zz)(h:r.2.1.oneCell'=true):∀u∈ja r,u.oneCell'=true:=by
  intro u A;simp only[ja,List.mem_append,List.mem_singleton] at A;rcases A with A|rfl|rfl
  ·exact j4 _ u A
  ·exact h
  ·rfl
section
variable {w w' w2:World} {B p:Nat} {v:Value} {d:List kX} {l:List Nat} {r:zz}
theorem RuneAt.keep(h:RuneAt w v l)(hk:KeepR w w'):RuneAt w' v l:=by
  obtain⟨g,B,C,A,D,F,G,H,E,I⟩:=h;exact⟨g,B,C,A,D,F,G,H,(hk g A _ D yv E).trans E,I⟩
theorem RunIn.keep(h:RunIn w r)(hk:KeepR w w'):RunIn w' r:=⟨h.1,h.2.1.keep hk,h.2.2⟩
theorem KeepR.trans(h:KeepR w w')(k:KeepR w' w2):KeepR w w2:=fun g A t B C D=>(k g A t B C ((h g A t B C D).trans D)).trans (h g A t B C D)
theorem KeepR.below(h:Below w.heap.size w w'):KeepR w w':=fun g B t C D A=>h.block g (qX A)
theorem KeepR.but{X:Nat→Prop}(h:But X w w')(hx:∀k,X k→∀A t B,immB t=true→w.heap[k]?≠some (.cells A t B)):KeepR w w':=fun g A t B D C=>h.block g (qX C) fun E=>hx g E A t B D C
theorem RuneAt.one(h:RuneAt w v l):v.oneCell'=true:=by
  obtain⟨g,A,B,C,D,rfl,_⟩:=h;rfl
theorem RuneAt.take{g off cap:Nat}(h:RuneAt w (.slice (some ⟨g,off,none⟩) l.length cap) l){n:Nat}(hn:n≤l.length):RuneAt w (.slice (some ⟨g,off,none⟩) n n) (l.take n):=by
  obtain⟨I,C,D,B,E,F,J,K,G,H⟩:=h;injection F with e1 _ e2;injection e1 with e1;injection e1 with e3 e4;subst e2 e3 e4;refine⟨g,off,n,B,E,by rw[List.length_take,Nat.min_eq_left hn],by rw[List.length_take];omega,by omega,G,fun j u A=>H j u ?_⟩;unfold qy at A ⊢;rw[List.map_take,List.getElem?_take] at A
  split at A
  ·exact A
  ·cases A
theorem RuneAt.drop{g off cap:Nat}(h:RuneAt w (.slice (some ⟨g,off,none⟩) l.length cap) l){n:Nat}(hn:n≤l.length):RuneAt w (.slice (some ⟨g,off+n,none⟩) (l.length - n) (cap - n)) (l.drop n):=by
  obtain⟨I,D,E,B,F,G,J,K,H,C⟩:=h;injection G with e1 _ e2;injection e1 with e1;injection e1 with e3 e4;subst e2 e3 e4;refine⟨g,off+n,cap - n,B,F,by rw[List.length_drop],by rw[List.length_drop];omega,by omega,H,fun j u A=>?_⟩;unfold qy at A C;rw[List.map_drop,List.getElem?_drop] at A;rw[Nat.add_assoc];exact C _ _ A
theorem DocAt.lt(h:DocAt w B p v d):p<w.heap.size:=by obtain⟨s,t,A⟩:=h.box;exact qX A
theorem DocAt.noRunes(h:DocAt w B p v d):∀k,DocX p v k→∀D t F,immB t=true→w.heap[k]?≠some (.cells D t F):=by
  intro k C D K F E A;rcases C with rfl|C
  ·obtain⟨s,t,G⟩:=h.box;rw[G] at A;injection A with A;injection A with _ A;subst A;exact absurd E yv
  ·obtain⟨L,_,_,H⟩:=h.rows;rcases H.2 with⟨rfl,_⟩|⟨g,J,M,rfl,_,I,_⟩
   ·cases C
   ·have:g=k:=by simpa [Value.ownBlock] using C
    subst this;rw[I] at A;injection A with A;injection A with _ A;subst A;exact absurd E yv
theorem DocAt.low'(h:DocAt w B p v d):∀k,DocX p v k→B≤k:=by
  rintro k (rfl|hk)
  ·exact h.low
  ·obtain⟨C,_,_,A⟩:=h.rows;exact(A.lt k hk).1
theorem DocAt.but{X:Nat→Prop}(h:DocAt w B p v d)(hb:But X w w')(hx:∀k,DocX p v k→¬X k)(hr:KeepR w w'):DocAt w' B p v d:=by
  obtain⟨C,D,E,F⟩:=h.rows;obtain⟨s,t,G⟩:=h.box;exact⟨⟨s,t,(hb.block p h.lt (hx p (.inl rfl))).trans G⟩,h.low,C,D,fun r A=>(E r A).keep hr,hb.own F fun g H=>hx g (.inr H)⟩
theorem DocAt.keep(h:DocAt w B p v d)(hb:Below w.heap.size w w'):DocAt w' B p v d:=h.but (X:=NoB) (But.of_below hb) (fun _ _ q=>q) (KeepR.below hb)
end
structure DocRows (w:World) (B p:Nat) (v:Value) (rs:List zz):Prop where
  box:∃s t:Int,w.heap[p]?=some (.cells [v,.int .i64 s,.int .i64 t].toArray 192 (0,0))
  low:B≤p
  ins:∀r∈rs,RunIn w r
  own:w.ownsRow B 177 36 v rs.length (ke ja rs)
def Newer(w:World)(v v':Value):Prop:=∀j,v'.ownBlock=some j→v.ownBlock=some j∨w.heap.size≤j
theorem Newer.refl(w:World)(v:Value):Newer w v v:=fun _ h=>.inl h
theorem Newer.trans{w w':World}{v v' v2:Value}(h:Newer w v v')(k:Newer w' v' v2)(hs:w.heap.size≤w'.heap.size):Newer w v v2:=fun j A=>by
  rcases k j A with q|q
  ·exact h j q
  ·exact .inr (Nat.le_trans hs q)
theorem DocX.of{w:World}{p:Nat}{v v':Value}(h:Newer w v v'){j:Nat}(hj:j<w.heap.size)(hx:DocX p v' j):DocX p v j:=by
  rcases hx with q|q
  ·exact .inl q
  ·rcases h j q with q|q
   ·exact .inr q
   ·omega
theorem DocRows.at{w:World}{B p:Nat}{v:Value}{rs:List zz}(h:DocRows w B p v rs):DocAt w B p v (rs.map kZ):=⟨h.box,h.low,rs,rfl,h.ins,h.own⟩
theorem DocAt.runs{w:World}{B p:Nat}{v:Value}{d:List kX}(h:DocAt w B p v d):∃A:List zz,A.map kZ=d∧DocRows w B p v A:=by
  obtain⟨A,C,D,E⟩:=h.rows;exact⟨A,C,h.box,h.low,D,E⟩
section
variable {w w':World} {B p:Nat} {v:Value} {rs:List zz}
theorem DocRows.lt(h:DocRows w B p v rs):p<w.heap.size:=h.at.lt
theorem DocRows.keep(h:DocRows w B p v rs)(hb:Below w.heap.size w w'):DocRows w' B p v rs:=by
  obtain⟨s,t,A⟩:=h.box;exact⟨⟨s,t,(hb.block p h.lt).trans A⟩,h.low,fun r C=>(h.ins r C).keep (KeepR.below hb),(But.of_below (X:=NoB) hb).own h.own fun _ _ q=>q⟩
theorem DocRows.row(h:DocRows w B p v rs){i:Nat}(hi:i<rs.length):∃g c,v=.slice (some ⟨g,0,none⟩) rs.length c∧w.rangeAt g (i*36) (ja rs[i])∧g<w.heap.size∧B≤g:=by
  obtain⟨g,c,D,E,F,A,_⟩:=KJ h.own yz;refine⟨g,c,E,fun j u G=>?_,qX A,F⟩;have C:=K9 (vW h.ins) i hi j u G;rw[k4 A,List.getElem?_append_left (List.getElem?_eq_some_iff.1 C).1];exact C
theorem rows_set{sz:Nat}{α:Type}{enc:α→List Value}{l:List α}(ho:∀x∈l,(enc x).length=sz){i:Nat}(hi:i<l.length){r:α}:
    ke enc l=ke enc (l.take i)++(enc l[i]++ke enc (l.drop (i+1)))∧ke enc (l.take i++r::l.drop (i+1))=ke enc (l.take i)++(enc r++ke enc (l.drop (i+1))):=by
  refine⟨?_,by simp [ke]⟩;have:l=l.take i++l[i]::l.drop (i+1):=by rw[←List.drop_eq_getElem_cons hi,List.take_append_drop]
  have e:ke enc l=ke enc (l.take i++l[i]::l.drop (i+1)):=congrArg (ke enc) this;rw[e];simp only[ke,List.flatMap_append,List.flatMap_cons]
end
section
variable {w:World}
theorem kE{base n sz:Nat}{e:TypeId}{v:Value}{xs:List Value}(h:w.ownsRow base e sz v n xs){k:Nat}(hk:v.ownBlock=some k):∃A,w.heap[k]?=some (.cells A e (0,0)):=by
  rcases h.2 with⟨rfl,_⟩|⟨g,C,A,rfl,D,B,r⟩
  ·cases hk
  ·have:g=k:=by simpa [Value.ownBlock] using hk
   subst this;exact⟨A,B⟩
theorem jr{a b:Nat}{ca cb:Array Value}{ta tb:TypeId}{fa fb:Nat×Nat}(ha:w.heap[a]?=some (.cells ca ta fa))(hb:w.heap[b]?=some (.cells cb tb fb))(hne:ta≠tb):a≠b:=by
  rintro rfl;rw[ha] at hb;injection hb with hb;injection hb with _ hb;exact hne hb
theorem Jt{a b:Nat}{ca:Array Value}{ta:TypeId}{fa:Nat×Nat}(ha:w.heap[a]?=some (.cells ca ta fa))(hb:∃x y,w.heap[b]?=some (.map x y)):a≠b:=by
  rintro rfl;obtain⟨x,y,hb⟩:=hb;rw[ha] at hb;cases hb
end
theorem putR_map(rs:List zz)(i:Nat)(r:zz):(rs.take i++r::rs.drop i).map kZ=qh (rs.map kZ) i (kZ r):=by
  simp [qh,List.map_take,List.map_drop]
theorem splice_is{A M B C:List Value}(hB:B.length=M.length)(v:Value)(hv:v.cells.toList=B):
    v.cells.zipIdx.foldl (fun cs (x:Value×Nat)=>cs.setIfInBounds (A.length+x.2) x.1) (A++(M++C)).toArray=(A++(B++C)).toArray:=by
  obtain⟨E,D⟩:=Go.Great.foldl_set A.length v.cells.toList 0 (A++(M++C)).toArray;rw[←Array.foldl_toList,Array.toList_zipIdx];apply Array.ext_getElem?;intro k;rw[D k,hv];simp only[Nat.add_zero,List.size_toArray,List.length_append,List.getElem?_toArray];by_cases h1:k<A.length
  ·rw[if_neg yz,List.getElem?_append_left h1,List.getElem?_append_left h1]
  ·by_cases h2:k<A.length+B.length
   ·rw[if_pos yz,List.getElem?_append_right yz,List.getElem?_append_left yz]
   ·rw[if_neg yz,List.getElem?_append_right yz,List.getElem?_append_right yz,List.getElem?_append_right yz,List.getElem?_append_right yz,hB]
theorem QL(place:Nat→Option (Nat×Nat)):∀(parts:List (Nat×Value)) (ch:List (List Value)),(∀i (h:i<ch.length),place i=some ((ch.take i).flatten.length,ch[i].length))→
    (∀p∈parts,∃h:p.1<ch.length,p.2.cells.size=ch[p.1].length)→Instr.fill place ch.flatten.toArray parts=some ((parts.foldl (fun c p=>c.set p.1 p.2.cells.toList) ch).flatten.toArray)
  | [],ch,_,_=>rfl
  |(i,v)::rest,ch,hp,hs=>by
   obtain⟨hi,hsz⟩:=hs (i,v) yq;have C:i<ch.length:=hi;have A:v.cells.size=ch[i].length:=hsz;have D:ch=ch.take i++(ch[i]::ch.drop (i+1)):=by
      rw[←List.drop_eq_getElem_cons C,List.take_append_drop]
   have E:ch.flatten=(ch.take i).flatten++(ch[i]++(ch.drop (i+1)).flatten):=by
      have h:=congrArg List.flatten D;rw[List.flatten_append,List.flatten_cons] at h;exact h
   have F:(ch.set i v.cells.toList).flatten=(ch.take i).flatten++(v.cells.toList++(ch.drop (i+1)).flatten):=by
      rw[List.set_eq_take_append_cons_drop,if_pos C];simp
   unfold Instr.fill;simp only[hp i C];rw[if_neg (by
      simp only[A,ne_eq,not_true_eq_false,decide_false,Bool.false_or,decide_eq_true_eq,List.size_toArray,Nat.not_lt];rw[E];simp)]
   rw[show (v.cells.zipIdx.foldl (fun cs (x:Value×Nat)=>cs.setIfInBounds ((ch.take i).flatten.length+x.2) x.1) ch.flatten.toArray)=(ch.set i v.cells.toList).flatten.toArray by
      rw[F,E];exact splice_is (by simpa using A) v rfl]
   have B:∀k (h:k<(ch.set i v.cells.toList).length),(ch.set i v.cells.toList)[k].length=(ch[k]'(by simpa using h)).length:=by
      intro k h;rw[List.getElem_set]
      split
      ·rename_i e;subst e;simpa using A
      ·rfl
   refine(QL place rest (ch.set i v.cells.toList) ?_ ?_).trans rfl
   ·intro k G;have H:k<ch.length:=by simpa using G
    rw[hp k H,B k G]
    congr 2
    have:∀n,n≤ch.length→(((ch.set i v.cells.toList).take n).flatten).length=((ch.take n).flatten).length:=by
       intro n
       induction n with
       |zero=>intro _;rfl
       |succ n ih=>
        intro L;rw[List.take_succ_eq_append_getElem yj,List.take_succ_eq_append_getElem yz];simp only[List.flatten_append,List.length_append,ih yz,List.flatten_cons,List.flatten_nil,List.append_nil];rw[B n yj]
    exact(this k yz).symm
   ·intro p I;obtain⟨J,K⟩:=hs p (by simp [I]);refine⟨by simpa using J,?_⟩;rw[K,B]
theorem zl{P:Program}{t:TypeId}{i:TypeInfo}{fs:Array Field}(hi:P.info? t=some i)(hu:P.underlying t=some (.struct fs)){z:Value}(hz:i.zero=some z)(ch:List (List Value))(hc:z.cells.toList=ch.flatten)
    {places:List (Nat×Nat)} (hpl:fs.toList.mapM (fun f=>(P.info? f.type).map fun i=>(f.offset,i.size))=some places) (hp:places=(List.range ch.length).map fun k=>(((ch.take k).flatten.length),(ch.getD k []).length))
    (parts:List (Nat×Value)) (hs:∀p∈parts,∃h:p.1<ch.length,p.2.cells.size=ch[p.1].length):P.built t parts=some ((parts.foldl (fun c p=>c.set p.1 p.2.cells.toList) ch).flatten.toArray):=by
  unfold Program.built;simp only[hi,hu,hz,hpl];rw[show z.cells=ch.flatten.toArray by rw[←hc]];refine QL _ parts ch (fun k A=>?_) hs;rw[hp];simp [A,List.getD_eq_getElem?_getD]
theorem Ka{P:Program}(w:World)(t e:TypeId)(ht:P.underlying t=some (.slice e))(z:Value)(size bytes:Nat)(hinf:(P.info? e).map (fun i=>(i.zero,i.size,i.bytes))=some (some z,size,bytes))(hz1:z.cells.size=size)(hsz:0<size)
    (vs:List Value) (hv:∀v∈vs,v.cells.size=size) (hn0:0<vs.length) (hmax:vs.length*size≤16777216):
    (Instr.buildSlice t vs.length ((vs.zipIdx 0).map fun x=>(x.2,x.1)).toArray).run P w=.ok (.slice (some ⟨w.heap.size,0,none⟩) vs.length vs.length) (w.alloc (.cells (vs.flatMap fun v=>v.cells.toList).toArray e)):=by
  obtain⟨i,E,F,G,I⟩:∃i,P.info? e=some i∧i.zero=some z∧i.size=size∧i.bytes=bytes:=by
    cases hq:P.info? e with
    |none=>simp [hq] at hinf
    |some i=>simp [hq] at hinf;exact⟨i,rfl,hinf.1,hinf.2.1,hinf.2.2⟩
  have D:vs.length*size≠0:=Nat.mul_ne_zero yz yz;have H:¬(vs.length*size > 2 ^ 24):=by omega
  have A:Instr.fill (fun k=>some (k*size,size)) ((Array.range (vs.length*size)).map (z.cells[· % z.cells.size]!)) ((vs.zipIdx 0).map fun x=>(x.2,x.1))=some (vs.flatMap fun v=>v.cells.toList).toArray:=
    Go.Great.fill_whole hsz vs _ hv yq
  unfold Instr.buildSlice;have B:(sizeOf e).run P w=.ok size w:=by simp [sizeOf,typeInfo,E,G]
  have C:(zeroValue e).run P w=.ok z w:=by simp [zeroValue,typeInfo,E,F]
  simp only[Sem.run_bind,run_underlying ht,Result.andThen_ok,B,if_neg H,if_neg D,C,Sem.run_pure,A];rfl
theorem jJ{P:Program}{ops:Array Oper}{rest:List Oper}{o:Oper}{a:Act}{w:World}{Q:Exit→Act→World→Prop}(hw:Region.wanted o (yielded ops a.tmps)=true)(t:TypeId)(x:Operand)(ho:o.op=.buildSlice t 1 #[(0,x)])
    (e:TypeId) (ht:P.underlying t=some (.slice e)) (z:Value) (size bytes:Nat) (hinf:(P.info? e).map (fun i=>(i.zero,i.size,i.bytes))=some (some z,size,bytes)) (hz1:z.cells.size=size) (hsz:0<size) (hmax:size≤16777216)
    (us:List Value) (hl:us.length=size) (hx:a.eval x=.agg us.toArray)
    (h:wpList P ops Q rest (a.put o.dst (.slice (some ⟨w.heap.size,0,none⟩) 1 1)) (w.alloc (.cells us.toArray e))):wpList P ops Q (o::rest) a w:=by
  have A:=Ka w t e ht z size bytes hinf hz1 hsz [.agg us.toArray] (fun v B=>by rw[List.mem_singleton.1 B];exact hl) yq (by simpa using hmax);simp only[List.flatMap_cons,List.flatMap_nil,List.append_nil] at A;refine BigFrame.wpList_want hw fun K C=>?_
  have:=C _ _ h;unfold Oper.wp execOp;simp only[ho,List.map_toArray,List.map_cons,List.map_nil,hx,Sem.run_bind];have D:(Instr.buildSlice t 1 #[(0,.agg us.toArray)]).run P w=.ok (.slice (some ⟨w.heap.size,0,none⟩) 1 1) (w.alloc (.cells us.toArray e)):=A;rw[D];exact this
def kT(c:kS):List Value:=k8 c.1++(k8 c.2.1++([.int .u8 (c.2.2.1:Int)]++[.string c.2.2.2]))
def Kf(c:kS):Prop:=kN c.1∧kN c.2.1∧c.2.2.1<256∧c.2.2.2.size≤maxLen
theorem j2{c:kS}(h:Kf c):(kT c).length=70:=by
  simp [kT,k9 h.1,k9 h.2.1]
theorem Ju(c:kS):∀u∈kT c,u.oneCell'=true:=by
  intro u A;simp only[kT,List.mem_append,List.mem_singleton] at A;rcases A with A|A|rfl|rfl
  ·exact j4 _ u A
  ·exact j4 _ u A
  ·rfl
  ·rfl
theorem UT{c:kS}(h:Kf c):(kT c)[68]?=some (.int .u8 (c.2.2.1:Int))∧(kT c)[69]?=some (.string c.2.2.2):=by
  have A:=k9 h.1;have B:=k9 h.2.1;constructor
  ·unfold kT;rw[List.getElem?_append_right yz,List.getElem?_append_right yz,A,B];rfl
  ·unfold kT;rw[List.getElem?_append_right yz,List.getElem?_append_right yz,A,B];rfl
theorem vX{c:kS}(h:Kf c):∀j u,(k8 c.1)[j]?=some u→(kT c)[0+j]?=some u:=by
  intro j u A;unfold kT;rw[Nat.zero_add,List.getElem?_append_left (List.getElem?_eq_some_iff.1 A).1];exact A
theorem claim_doc{c:kS}(h:Kf c):∀j u,(k8 c.2.1)[j]?=some u→(kT c)[34+j]?=some u:=by
  intro j u A;have B:=k9 h.1;unfold kT;rw[List.getElem?_append_right yz,B,show 34+j - 34=j by omega,List.getElem?_append_left (List.getElem?_eq_some_iff.1 A).1];exact A
abbrev vF:=kF×ByteArray
def jW(n:vF):List Value:=k8 n.1++[.string n.2]
def NamedOk(n:vF):Prop:=kN n.1∧n.2.size≤maxLen
theorem vG{n:vF}(h:NamedOk n):(jW n).length=35:=by
  simp [jW,k9 h.1]
theorem namedV_one(n:vF):∀u∈jW n,u.oneCell'=true:=by
  intro u A;simp only[jW,List.mem_append,List.mem_singleton] at A;rcases A with A|rfl
  ·exact j4 _ u A
  ·rfl
theorem named_cell{n:vF}(h:NamedOk n):(jW n)[34]?=some (.string n.2):=by
  have A:=k9 h.1;unfold jW;rw[List.getElem?_append_right yz,A];rfl
theorem named_doc{n:vF}(h:NamedOk n):∀j u,(k8 n.1)[j]?=some u→(jW n)[0+j]?=some u:=by
  intro j u A;unfold jW;rw[Nat.zero_add,List.getElem?_append_left (List.getElem?_eq_some_iff.1 A).1];exact A
section
variable {H:Type} {enc:TypeId×Value→H} {w:World} {base:Nat} {spare:Nat→Bool} {held:Bool} {fuel:Nat} {cs:List Value} {x:DataW H×List MemPlace}
end
def ZX(k:kF):Value:=.agg (k8 k).toArray
noncomputable def uP(k:kF):Lit:=(keyOf prog 89 (ZX k)).getD (.bool false)
theorem keyA_inj{a b:kF}(h:ZX a=ZX b):a=b:=by
  unfold ZX at h;injection h with h;exact keyV_inj (by have:=congrArg Array.toList h;simpa using this)
theorem keyOf_key{k:kF}(hk:kN k):keyOf prog 89 (ZX k)=some (uP k):=by
  obtain⟨l,A⟩:=eqKey.is (by rw[k9 hk,qn]) (kbKey hk);unfold uP;have B:keyOf prog 89 (ZX k)=some l:=A;rw[B];rfl
theorem keyEnc:KeyEnc prog 89 kN ZX uP:=⟨keyedKey,fun k A=>keyOf_key A,fun a b h=>keyA_inj h⟩
def idA(i:List UInt8):Value:=.agg (idV i).toArray
noncomputable def idL(i:List UInt8):Lit:=(keyOf prog 41 (idA i)).getD (.bool false)
theorem idA_inj{a b:List UInt8}(h:idA a=idA b):a=b:=by
  unfold idA at h;injection h with h;exact idV_inj (by have:=congrArg Array.toList h;simpa using this)
theorem keyOf_id{i:List UInt8}(hi:jp i):keyOf prog 41 (idA i)=some (idL i):=by
  obtain⟨l,A⟩:=eqId.is (by rw[kf,ZG];exact hi) (kbId hi);unfold idL;have B:keyOf prog 41 (idA i)=some l:=A;rw[B];rfl
theorem QM:KeyEnc prog 41 jp idA idL:=⟨eqId.keyed,fun i A=>keyOf_id A,fun a b h=>idA_inj h⟩
end
def OpOk(x:OpD):Prop:=za x.2.1∧za x.2.2.1∧(Lit.int .i64 x.2.2.2.2.1).wf=true
def Zt(c:kQ):Prop:=(Lit.int .i64 c.1).wf=true∧IdsOk c.2.1∧∀x∈c.2.2.2,OpOk x
def CommitOk(c:Zi):Prop:=IdsOk c.1∧IdsOk c.2.1∧(Lit.int .i64 c.2.2.2.2).wf=true
def ObjOk(o:ZT):Prop:=Zt o.2.1∧CommitOk o.2.2
theorem zJ{n:Int}(h:(Lit.int .i64 n).wf=true): -9223372036854775808≤n∧n<9223372036854775808:=by
  simp only[Lit.wf,IntKind.min,IntKind.max,IntKind.signed,IntKind.bits,Bool.and_eq_true] at h;simp at h;omega
theorem zm(n:Nat):UR (n:Int)=jq n:=by unfold UR;rw[if_neg yz];rfl
section
variable {α:Type} {d:Ps α} {enc:α→List UInt8}
end
theorem cmpB_zeros:∀(n:Nat) (a:List UInt8),a.length=n→¬jK a (List.replicate n 0)<0
  | 0,a,h=>by
    rw[List.length_eq_zero_iff.1 h];rw[show List.replicate 0 (0:UInt8)=[] from rfl,uH];omega
  |n+1,[],h=>by cases h
  |n+1,x::a,h=>by
   rw[List.replicate_succ,JB,if_neg (by rw[UInt8.lt_iff_toNat_lt];exact Nat.not_lt_zero _)]
   split
   ·omega
   ·exact cmpB_zeros n a (by simpa using h)
theorem ids_nodup{l:List (List UInt8)}(h:je l=true):∀i j (hij:i<j) (hj:j<l.length),l[i]'(Nat.lt_trans hij hj)≠l[j]:=fun i j hij hj e=>by
  have:=(List.pairwise_iff_getElem.1 (vu h)) i j yz hj hij;rw[e,vP] at this;omega
theorem idxOf_at{l:List (List UInt8)}(h:je l=true)(i:Nat)(hi:i<l.length):l.idxOf l[i]=i:=by
  have C:l[i]∈l:=List.getElem_mem hi;have A:=List.idxOf_lt_length_iff.2 C;have B:l[l.idxOf l[i]]=l[i]:=List.getElem_idxOf A;rcases (by omega:l.idxOf l[i]<i∨i<l.idxOf l[i]∨l.idxOf l[i]=i) with q|q|q
  ·exact absurd B (ids_nodup h _ _ q hi)
  ·exact absurd B.symm (ids_nodup h _ _ q A)
  ·exact q
theorem Uc{l:List (List UInt8)}{most:Nat}(h:ZU l most=true)(ho:IdsOk l):l.length≤most∧je l=true∧k7∉l:=by
  unfold ZU at h;simp only[Bool.and_eq_true,decide_eq_true_eq] at h;refine⟨h.1.1,h.1.2,fun A=>?_⟩;obtain⟨i,C,e⟩:=List.getElem_of_mem A;cases l with
  |nil=>cases A
  |cons a l=>
   have D:a≠k7:=by simpa using h.2
   cases i with
   |zero=>exact D e
   |succ i=>
    have B:=(List.pairwise_iff_getElem.1 (vu h.1.2)) 0 (i+1) yq C yz;rw[e] at B;exact cmpB_zeros 32 a (ho a yq) B
theorem Zj{k:UInt8}{p:qo}(h:kD k=some p):(k=1∧p=(true,true,true,false,false))∨(k=2∧p=(true,true,false,true,false))∨(k=3∧p=(false,false,false,false,true))∨(k=4∧p=(true,false,false,false,true))∨(k=5∧p=(true,false,false,false,false)):=by
  unfold kD at h
  repeat (split at h; · rename_i A;cases h;simp [A])
  cases h
theorem foreign_in{deps:List (List UInt8)}{r:zC}(h:zH deps r=true):r.1∈deps∧0≤r.2:=by
  unfold zH at h;simp only[Bool.and_eq_true,decide_eq_true_eq] at h;exact⟨h.1.1.2,h.1.2⟩
theorem doc_in{deps:List (List UInt8)}{mk:List jQ}{r:zC}(h:JJ deps mk r=true):(r.1=k7∨r.1∈deps)∧0≤r.2:=by
  unfold JJ at h
  split at h
  ·have:=foreign_in h;exact⟨.inr this.1,this.2⟩
  ·rename_i A;simp only[Bool.and_eq_true,decide_eq_true_eq] at h;exact⟨.inl (Classical.not_not.1 A),h.1.1⟩
theorem elems_in{deps:List (List UInt8)}{mk:List jQ}{r d:zC}{n:Int}(h:jE deps mk r d n=true):(r.1=k7∨r.1∈deps)∧0≤r.2:=by
  unfold jE at h
  split at h
  ·have:=foreign_in h;exact⟨.inr this.1,this.2⟩
  ·rename_i A;simp only[Bool.and_eq_true,decide_eq_true_eq] at h;exact⟨.inl (Classical.not_not.1 A),h.1.1.1⟩
theorem Jv{s:ByteArray}(h:KW s=true):s.size≤4096:=by
  unfold KW at h;simp only[Bool.and_eq_true,decide_eq_true_eq] at h;exact h.1
theorem pathB_size{s:ByteArray}(h:jZ s=true):s.size≤64:=by
  unfold jZ at h;simp only[Bool.and_eq_true,decide_eq_true_eq] at h;exact h.1.1.2
theorem qz{s:ByteArray}(h:zK s=true):s.size≤32:=by
  unfold zK at h;simp only[Bool.and_eq_true,decide_eq_true_eq] at h;exact h.1.2
theorem op_names{deps:List (List UInt8)}{mk:List jQ}{x:OpD}{p:qo}(hp:kD x.1=some p)(h:opB deps mk x=true):
    (p.1=true→(x.2.1.1=k7∨x.2.1.1∈deps)∧0≤x.2.1.2)∧(p.1=false→x.2.1=kg)∧(p.2.1=true→(x.2.2.1.1=k7∨x.2.2.1.1∈deps)∧0≤x.2.2.1.2)∧(p.2.1=false→x.2.2.1=kg)∧
    (p.2.2.1=true→x.2.2.2.1.size≤4096)∧(p.2.2.1=false→x.2.2.2.1=kM)∧(p.2.2.2.1=true→0≤x.2.2.2.2.1)∧(p.2.2.2.1=false→x.2.2.2.2.1=0)∧(p.2.2.2.2=true→x.2.2.2.2.2.size≤4096)∧(p.2.2.2.2=false→x.2.2.2.2.2=kM):=by
  obtain⟨k,d,a,t,c,q⟩:=x;unfold opB at h;simp only at hp h ⊢;rw[hp] at h;simp only[kv,Bool.and_eq_true] at h;obtain⟨⟨⟨⟨A,B⟩,D⟩,E⟩,C⟩:=h;have F:k=1→(a.1=k7∨a.1∈deps)∧0≤a.2:=fun e=>by
    subst e;rcases Zj hp with⟨_,rfl⟩|⟨e,_⟩|⟨e,_⟩|⟨e,_⟩|⟨e,_⟩
    ·have G:=doc_in (by simpa using B:JJ deps mk d=true);simp only[decide_true,Bool.not_true,Bool.false_or,Bool.and_eq_true,Bool.or_eq_true,decide_eq_true_eq] at C;rcases C.1.1 with e|e
     ·rw[e];exact G
     ·exact elems_in e
    all_goals exact absurd e yv
  rcases Zj hp with⟨rfl,rfl⟩|⟨rfl,rfl⟩|⟨rfl,rfl⟩|⟨rfl,rfl⟩|⟨rfl,rfl⟩
  ·simp at A B D C E ⊢;exact⟨doc_in B,F rfl,Jv C.2,A.1,A.2⟩
  ·simp at A B D C E ⊢;exact⟨doc_in B,elems_in E.2,A.1,by omega,A.2⟩
  ·simp at A B D C E ⊢;exact⟨A.1.1.1,A.1.1.2,A.1.2,A.2,by have:=pathB_size D;omega⟩
  ·simp at A B D C E ⊢;exact⟨doc_in B,A.1.1,A.1.2,A.2,by have:=pathB_size D;omega⟩
  ·simp at A B D C E ⊢;exact⟨doc_in B,A.1.1.1,A.1.1.2,A.1.2,A.2⟩
theorem ops_each{deps:List (List UInt8)}:∀{l:List OpD} {mk:List jQ},Zr deps mk l=true→∀x∈l,∃mk,opB deps mk x=true
  | [],_,_,_,h=>by cases h
  |y::l,mk,h,x,hx=>by
   unfold Zr at h;rw[Bool.and_eq_true] at h;rcases List.mem_cons.1 hx with rfl|hx
   ·exact⟨mk,h.1⟩
   ·exact ops_each h.2 x hx
end Go.Proofs.YtdgbjhfkmembdaaGreatDoor