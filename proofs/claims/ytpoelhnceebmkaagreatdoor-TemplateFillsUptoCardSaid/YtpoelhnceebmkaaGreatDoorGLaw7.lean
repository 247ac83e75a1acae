/- What the card of TemplateFills leans on. No conditions. -/
import Derived.Test.YtpoelhnceebmkaaGreatDoorGLaw5
import Derived.Test.YtpoelhnceebmkaaGreatDoorGE27



